/- Walks: what is reached: colours. -/
import Derived.Test.YtpkngagppfoccaaGreatDoorWCards
set_option linter.all false
set_option linter.unusedVariables false
set_option linter.unusedSimpArgs false
namespace Go.Abs
open Go.Proofs Go.Proofs.YtpkngagppfoccaaGreatDoor
set_option maxRecDepth 8000

def colour (c : Col) (x : Hd) : Int := bif (bif (bif (bif x.old then !c.major else false) then true else decide (c.epoch < 0)) then true else decide (c.epoch > 1048576)) then 0 else (bif decide (x.mark < c.epoch) then 1 else (bif x.done then 3 else 2))
def atK (g : Hp) (c : Col) (a : Int) : Int := bif decide (headE g a = 0) then colour c (headH g a) else 0
def whiteH (g : Hp) (c : Col) (a : Int) : Bool := decide (atK g c a = 1)
def greyH (g : Hp) (c : Col) : List Int := (usedH g).filter fun a => decide (atK g c a = 2)

theorem at_head {g : Hp} {a : Int} (h : headE g a ≠ 0) : headH g a = Hd.zero := headH_no rfl h

/-! Deleting from a slice that is the first part of a row. -/
theorem getD_left {l z : List Int} {i : Nat} (h : i < l.length) : (l ++ z).getD i default = l.getD i default := by
  rw [List.getD_eq_getElem?_getD, List.getD_eq_getElem?_getD, List.getElem?_append_left h]

theorem DeleteFuncV_spec (l z : List Int) (g : Nat) (cs : List DV) (p : Int → Bool) (hp : ∀ x ∈ l, Spec X g [] (.int x :: capT cs) (Ret [] (.bo (p x)))) :
    Spec X 54 [(16, .data .int (l ++ z : List Int))] [.c (.view 16 0 l.length), .c (.d (.fn g [] cs))] (fun H r => ∃ z : List Int, H = [(16, .data .int (((l.filter fun x => !p x) ++ z : List Int)))] ∧ r = .c (.view 16 0 (l.filter fun x => !p x).length)) := by
  refine spec_go X_ok Tryz.f54 (by kernel_rfl) (by kernel_rfl) (by kernel_rfl) fun hb hH => ⟨rfl, ?_⟩
  have hla : (l ++ z).length ≤ maxN := hH 16 .int (l ++ z) rfl
  rw [List.length_append] at hla
  unfold maxN at hla
  have hble : Nat.ble (0 + l.length) (l ++ z).length = true := Nat.ble_eq_true_of_le (by rw [List.length_append]; omega)
  have hlend : lendT [(16, .data .int (l ++ z : List Int))] (.c (.view 16 0 l.length)) = .c (.d (.sl .int l)) := by
    show (match (bif Nat.ble (0 + l.length) (l ++ z).length then some (DV.sl .int (((l ++ z).drop 0).take l.length)) else none) with | some y => TV.c (.d y) | none => TV.any) = _
    rw [hble]
    have e : ((l ++ z : List Int).drop 0).take l.length = l := by rw [List.drop_zero, List.take_left]
    exact congrArg (fun q : List Int => TV.c (.d (.sl .int q))) e
  show ACall _ _ _ _ _ _
  refine .mk' (args' := [.c (.d (.sl .int l)), .c (.d (.fn g [] cs))]) ?_ (IndexFunc_spec l g cs p hp) rfl ?_
  · show [lendT _ _, _] = _
    rw [hlend]
    rfl
  show ABr (idxI (idxF p l) == -1) _ _
  refine ⟨fun h => ?_, fun h => ?_⟩
  · have hnone : l.filter (fun x => !p x) = l := by
      rw [List.filter_eq_self]
      intro x hx
      by_cases hpx : p x = true
      · exfalso
        have h1 := idxI_ge p l
        rw [List.any_eq_true.2 ⟨x, hx, hpx⟩] at h1
        have h1 := of_decide_eq_true h1
        have h : idxI (idxF p l) = -1 := by simpa using h
        omega
      · simp [hpx]
    rw [hnone]
    show ARet _ _ _
    exact ⟨[(16, 16)], [(16, .data .int (l ++ z))], [.c (.view 16 0 l.length)], .cons _ _ _ _ (.view_eq (by simp [nmOf]) rfl) .nil, .old 16 16 _ _ _ rfl rfl (.data _ _) .nil, rfl, z, rfl, rfl⟩
  · have hn : ∃ i0, idxF p l = some i0 := by
      cases hi : idxF p l with
      | none => rw [hi] at h; exact absurd h (by decide)
      | some i0 => exact ⟨i0, rfl⟩
    obtain ⟨i0, hi0⟩ := hn
    obtain ⟨hil, hbe, hat⟩ := idxF_inv hi0
    rw [hi0]
    show ∃ n, _
    refine ⟨0, ALoop.inv (ι := {q : Nat × Nat × List Int // DelI l p q.1 q.2.1 q.2.2}) (fun q => ⟨[(0, .c (.view 16 0 l.length)), (1, .c (.d (.fn g [] cs))), (5, .int q.1.1), (6, .int q.1.2.1)], [(16, .data .int (q.1.2.2 ++ z : List Int))], 32⟩) (fun q => l.length - q.1.2.1) ⟨(i0, i0 + 1, l), DelI.start hil hbe hat⟩ ?_ ?_⟩
    · exact ⟨[(16, 16)], .cons _ _ _ (.view_eq (by simp [nmOf]) rfl) (.cons _ _ _ .same (.cons _ _ _ .same (.cons _ _ _ (.int_eq (wrapP (i := i0) (by unfold maxN; omega))) .nil))), .old 16 16 _ _ _ rfl rfl (.data _ _) .nil, rfl⟩
    · rintro ⟨⟨i, j, cur⟩, hq⟩
      obtain ⟨hcl, hij, hjl, htk, hdr⟩ := (show DelI l p i j cur from hq)
      show ABr (decide ((j : Int) < (l.length : Int))) _ _
      refine ⟨fun h => ?_, fun h => ?_⟩
      · have hlt : j < l.length := by simpa using h
        show AOb ((0 : Int) ≤ (j : Int) ∧ (j : Int) < (l.length : Int)) _
        refine ⟨by omega, ?_⟩
        show AOb (0 + (j : Int).toNat < (cur ++ z).length) _
        refine ⟨by rw [List.length_append]; omega, ?_⟩
        have hz : (cur ++ z).getD (0 + (j : Int).toNat) default = cur.getD j default := by
          rw [Nat.zero_add, Int.toNat_natCast, getD_left (by omega)]
        show fT (ofCells (X.ty 3).isAgg (List.map CV.d (List.take (X.ty 3).size (List.drop 0 (EK.int.enc ((cur ++ z : List Int).getD (0 + (j : Int).toNat) default)))))) _
        rw [hz]
        have hv : cur.getD j default = at0 l j := by
          have e1 := drop_at0 (l := cur) (j := j) (by omega)
          have e2 := drop_at0 (l := l) (j := j) (by omega)
          rw [hdr, e2] at e1
          injection e1 with e1 _
          exact e1.symm
        have hmem : cur.getD j default ∈ l := by
          rw [hv]
          unfold at0
          rw [List.getD_eq_getElem?_getD, List.getElem?_eq_getElem (by omega)]
          exact List.getElem_mem _
        refine call_fn (hp (cur.getD j default) hmem) ?_
        show ABr (!p (cur.getD j default)) _ _
        refine ⟨fun h => ?_, fun h => ?_⟩
        · show AOb ((0 : Int) ≤ (i : Int) ∧ (i : Int) < (l.length : Int)) _
          refine ⟨by omega, ?_⟩
          show AOb (0 + (i : Int).toNat < (cur ++ z).length) _
          refine ⟨by rw [List.length_append]; omega, ?_⟩
          show ARound _ _ _ _
          refine ⟨⟨(i + 1, j + 1, cur.set i (cur.getD j default)), ?_⟩, by show l.length - (j + 1) < l.length - j; omega, [(16, 16)], .cons _ _ _ (.view_eq (by simp [nmOf]) rfl) (.cons _ _ _ .same (.cons _ _ _ (.int_eq (wrapP (i := i) (by unfold maxN; omega))) (.cons _ _ _ (.int_eq (wrapP (i := j) (by unfold maxN; omega))) .nil))), .old 16 16 _ _ _ rfl rfl (.data_eq (k := .int) (l := (cur ++ z).set (0 + (i : Int).toNat) (cur.getD j default)) (by
            rw [Nat.zero_add, Int.toNat_natCast, List.set_append_left _ _ (by omega)])) .nil, rfl⟩
          exact DelI.keep hq (by omega) hv (by rw [hv] at h; simpa using h)
        · show ARound _ _ _ _
          exact ⟨⟨(i, j + 1, cur), DelI.drop hq (by omega) (by rw [hv] at h; simpa using h)⟩, by show l.length - (j + 1) < l.length - j; omega, [(16, 16)], .cons _ _ _ (.view_eq (by simp [nmOf]) rfl) (.cons _ _ _ .same (.cons _ _ _ .same (.cons _ _ _ (.int_eq (wrapP (i := j) (by unfold maxN; omega))) .nil))), .old 16 16 _ _ _ rfl rfl (.data _ _) .nil, rfl⟩
      · have hge : j = l.length := by simp at h; omega
        subst hge
        show AOb ((0 : Int) ≤ (i : Int) ∧ (i : Int) ≤ (l.length : Int)) _
        refine ⟨by omega, ?_⟩
        show AOb ((0 : Int) ≤ (i : Int) ∧ (i : Int) ≤ (l.length : Int)) _
        refine ⟨by omega, ?_⟩
        show ARet _ _ _
        have ef : l.filter (fun x => !p x) = cur.take i := by rw [htk, List.take_length]
        have el : (cur.take i).length = i := by simp; omega
        rw [ef, el]
        have es : ∀ m : Nat, m = l.length - i → splice (cur ++ z : List Int) (0 + (i : Int).toNat) (List.replicate m (0 : Int)) = cur.take i ++ (zer (l.length - i) ++ (cur ++ z).drop (i + (zer (l.length - i)).length)) := by
          intro m hm
          subst hm
          rw [Nat.zero_add, Int.toNat_natCast, ← List.append_assoc]
          show (cur ++ z).take i ++ zer (l.length - i) ++ (cur ++ z).drop (i + (zer (l.length - i)).length) = _
          rw [List.take_append_of_le_length (by omega)]
        exact ⟨[(16, 16)], [(16, .data .int (cur.take i ++ (zer (l.length - i) ++ (cur ++ z).drop (i + (zer (l.length - i)).length)) : List Int))], [.c (.view 16 0 i)], .cons _ _ _ _ (.view_eq (n := ((i : Int) - 0).toNat) (by simp [nmOf]) (by omega)) .nil, .old 16 16 _ _ _ rfl rfl (.data_eq (k := .int) (es ((l.length : Int) - (i : Int)).toNat (by omega))) .nil, rfl, _, rfl, rfl⟩

theorem IndexFunc0_spec (g : Nat) (cs : List DV) : Spec X 92 [] [.c (.d .nilsl), .c (.d (.fn g [] cs))] (Ret [] (.int (-1))) := by
  refine spec_go X_ok Tryz.f92 (by kernel_rfl) (by kernel_rfl) (by kernel_rfl) fun hb hH => ⟨rfl, ?_⟩
  show ∃ n, _
  refine ⟨1, ?_⟩
  show ALoop _ _ _ _
  refine .next ?_
  show ABr _ _ _
  refine ⟨fun h => absurd h (by decide), fun _ => ?_⟩
  show ARet _ _ _
  exact ret_d rfl ⟨rfl, rfl⟩

theorem DeleteFunc0_spec (g : Nat) (cs : List DV) : Spec X 54 [] [.c (.d .nilsl), .c (.d (.fn g [] cs))] (Ret [] (.c (.d .nilsl))) := by
  refine spec_go X_ok Tryz.f54 (by kernel_rfl) (by kernel_rfl) (by kernel_rfl) fun hb hH => ⟨rfl, ?_⟩
  show ACall _ _ _ _ _ _
  refine call_ret (IndexFunc0_spec g cs) rfl ?_
  show ABr _ _ _
  refine ⟨fun _ => ?_, fun h => absurd h (by decide)⟩
  show ARet _ _ _
  exact ret_d rfl ⟨rfl, rfl⟩

theorem hUsed0_spec (g : Hp) (hl : g.light) (hm : mayH g [] = false) : Spec X 22 [] [g.tv] (Ret [] (.c (.d .nilsl))) := by
  refine spec_go X_ok Tryz.f22 (by kernel_rfl) (by kernel_rfl) (by kernel_rfl) fun hb hH => ⟨rfl, ?_⟩
  show ACall _ _ _ _ _ _
  refine call_ret (hHMay0_spec g hl) rfl ?_
  rw [hm]
  show ABr _ _ _
  refine ⟨fun _ => ?_, fun h => absurd h (by decide)⟩
  show ARet _ _ _
  exact ret_d rfl ⟨rfl, rfl⟩

/-- What is used, where its list can be written to. -/
theorem hUsedV_spec (g : Hp) (hl : g.light) (hm : mayH g [] = true) : Spec X 22 [] [g.tv] (fun H r => ∃ z : List Int, H = [(0, .data .int (usedH g ++ z : List Int))] ∧ r = .c (.view 0 0 (usedH g).length)) := by
  refine spec_go X_ok Tryz.f22 (by kernel_rfl) (by kernel_rfl) (by kernel_rfl) fun hb hH => ⟨rfl, ?_⟩
  show ACall _ _ _ _ _ _
  refine call_ret (hHMay0_spec g hl) rfl ?_
  rw [hm]
  show ABr _ _ _
  refine ⟨fun h => absurd h (by decide), fun _ => ?_⟩
  have hs := mayH_shaped hm
  have eU : usedH g = (cellStarts g.pages).filter (fun x => !(fun a => wordAt g a == 0) x) := by unfold usedH; rw [hm]; rfl
  rw [eU]
  show ACall _ _ _ _ _ _
  refine .mk _ (cAll_spec g.pages) fun H r hq _ _ => ?_
  obtain ⟨rfl, rfl⟩ := hq
  refine ⟨.inl rfl, ?_⟩
  show ACall _ _ _ _ _ _
  refine .hand [(_, 16)] [(16, .data .int (cellStarts g.pages))] [.c (.own 16), .c (.d (.fn 55 [] [.rp g.enc]))] _ (.cons _ _ _ _ (.c _ _ (.own1 _ _)) (.cons _ _ _ _ (.c _ _ (.frz _ _ rfl)) .nil)) (.old 16 _ _ _ _ rfl rfl (.data_eq rfl) .nil) rfl (DeleteFunc_spec (cellStarts g.pages) _ [.rp g.enc] (fun a => wordAt g a == 0) (fun x hx => used1_spec g x hs (start_adr hx))) ?_
  rintro H r ⟨z, rfl, rfl⟩ _ _
  refine ⟨rfl, .inr ⟨rfl, rfl⟩, ?_⟩
  show ARet _ _ _
  generalize (cellStarts g.pages).filter (fun x => !(fun a => wordAt g a == 0) x) = F
  exact ⟨[(256, 0)], [(0, .data .int (F ++ z : List Int))], [.c (.view 0 0 F.length)], .cons _ _ _ _ (.view_eq rfl rfl) .nil, .old 0 _ _ _ _ rfl rfl (.data_eq rfl) .nil, rfl, z, rfl, rfl⟩

/-! A collector's, and a heap's, own. -/
theorem CloneIntsOwnZ_spec (l : List Int) (h : l.length ≤ most) : Spec X 58 [] [.c (.d (.sl .int l))] (Ret [(0, .data .int l)] (.c (.own 0))) := by
  refine spec_go X_ok Tryz.f58 (by kernel_rfl) (by kernel_rfl) (by kernel_rfl) fun hb _ => ⟨rfl, ?_⟩
  intro b (hnil : b = true → l = [])
  show ABr _ _ _
  refine ⟨fun hb => ?_, fun hb => ?_⟩
  · have hl := hnil hb
    subst hl
    show ARet _ _ _
    exact ⟨[], [(0, .data .int [])], [.c (.own 0)], .cons _ _ _ _ (.c _ _ (.nilown 0 .int rfl rfl)) .nil, .new 0 .int _ rfl .nil, rfl, rfl, rfl⟩
  show AOb (0 + l.length ≤ most) _
  refine ⟨by omega, ?_⟩
  show ARet _ _ _
  exact ⟨[(_, 0)], [(0, .data .int l)], [.c (.own 0)], .cons _ _ _ _ (.c _ _ (.own1 _ _)) .nil, .old 0 _ _ _ _ rfl rfl (.data_eq rfl) .nil, rfl, rfl, rfl⟩

def Col.own (c : Col) : TV := .agg [.d (DV.int c.phase), .d (DV.int c.epoch), .d (DV.bo c.major), .own 0, .d (DV.bo c.over), .d (DV.int c.at_), .d (DV.int c.field_), .d (DV.int c.seek), .d (DV.int c.card), .d (DV.bo c.met)]

def Hp.small (g : Hp) : Prop := g.w.length ≤ most ∧ g.pages.length ≤ most ∧ g.cards.length ≤ most ∧ g.free.l0.length ≤ most ∧ g.free.l1.length ≤ most ∧ g.free.l2.length ≤ most

/-! Shading; making black. -/
def markH (g : Hp) (c : Col) (a : Int) : Hd := { headH g a with mark := c.epoch, done := false }
def shadeG (g : Hp) (c : Col) (a : Int) : Hp := bif decide (atK g c a = 1) then setH g a (markH g c a) else g
def shadeC (g : Hp) (c : Col) (a : Int) : Col := bif decide (atK g c a = 1) then (bif decide ((c.work.length : Int) < 4) then { c with work := c.work ++ [a] } else { c with over := true }) else c
def doneH (g : Hp) (a : Int) : Hd := { headH g a with done := true }
def blackG (g : Hp) (c : Col) (a : Int) : Hp := bif decide (atK g c a = 2) then setH g a (doneH g a) else g

end Go.Abs
