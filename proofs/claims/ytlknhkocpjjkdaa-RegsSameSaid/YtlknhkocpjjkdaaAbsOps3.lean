/- More operations that leave memory as it is: addresses, parts, slices. -/
import Derived.Test.YtlknhkocpjjkdaaAbsOps2
set_option linter.all false
set_option linter.unusedVariables false
set_option linter.unusedSimpArgs false
namespace Go.Abs
section
variable {X : Ctx} {N : Names} {S : Nat → Prop} {w : World}

theorem lnth_get {α : Type} : ∀ (l : List α) (i : Nat), lnth l i = l[i]?
  | [], i => by simp [lnth]
  | x :: r, 0 => by simp [lnth]
  | x :: r, i + 1 => by simp [lnth, lnth_get r i]

theorem run_v {P : Program} {s : Sem Value} {v : Value} {w w' : World} (h : s.run P w = .ok v w') : (do let x ← s; pure (Next.value x) : Sem Next).run P w = .ok (.value v) w' := by
  simp [h]

theorem add_blk (b o n : Nat) : (⟨b, o, none⟩ : Addr).add n = ⟨b, o + n, none⟩ := Addr.add_lit b o n

theorem add_spot {a : Addr} (h : a.spot = none) (n : Nat) : a.add n = ⟨a.block, a.off + n, none⟩ := by
  cases a with | mk b o s => simp at h; subst h; exact Addr.add_lit b o n

theorem field_of {g : Array Field} {fs : List (Nat × Nat)} (hg : g.toList.map (fun f => (f.offset, f.type)) = fs) {i o u : Nat} (h : lnth fs i = some (o, u)) :
    ∃ f, g[i]? = some f ∧ f.offset = o ∧ f.type = u := by
  rw [lnth_get, ← hg] at h
  simp only [List.getElem?_map, Option.map_eq_some_iff] at h
  obtain ⟨f, hf, he⟩ := h
  simp only [Prod.mk.injEq] at he
  exact ⟨f, by simpa using hf, he.1, he.2⟩

theorem ty_ok_of_size (hX : XOk X) {u n : Nat} (h : (X.ty u).size = n + 1) : (X.ty u).ok = true := by
  cases hok : (X.ty u).ok with
  | true => rfl
  | false => have := (hX.kind u hok).2.1; rw [h] at this; cases this

theorem alive_ne {h : Heap} (hh : HR N S w h) {b : Nat} (ha : alive h b = true) : N b ≠ .dead := by
  unfold alive at ha
  split at ha
  · rename_i cs hb
    obtain ⟨r, _, _, h1, _⟩ := hh b _ hb
    rw [h1]; simp
  · rename_i k l hb
    obtain ⟨_, ⟨h1, _⟩ | ⟨r, _, _, h1, _⟩⟩ := hh b _ hb
    · rw [h1]; simp
    · rw [h1]; simp
  · cases ha

theorem repC_ptr {b i off : Nat} {v : Value} (h : RepC N S w (.ptr b i off) v) (hd : N b ≠ .dead) : ∃ r, N b = .live r ∧ v = .pointer (some ⟨r.blk, i * r.esz + off, none⟩) := by
  cases h with
  | ptr _ _ _ r hr => exact ⟨r, hr, rfl⟩
  | ptrD _ _ _ _ h _ => exact absurd h hd

theorem repL_nil_drop {O : Nat → Prop} {xs : List DV} {a : Addr} {vs : List Value} (ho : vs ≠ [] → ¬ O a.block) (hs : a.spot = none) (hl : xs.length = vs.length)
    (hr : ∀ (i : Nat) (x : DV) (v : Value), xs[i]? = some x → vs[i]? = some v → Rep O w x v) (hw : CellsAt w a vs) (n : Nat) : Rep O w (.rp (xs.drop n)) (.pointer (some (a.add n))) := by
  rw [add_spot hs]
  have h := repL_drop n (⟨hl, hr⟩ : RepL O w xs vs)
  refine .rp _ _ (vs.drop n) (fun hne => ho (by intro e; subst e; simp at hne)) rfl h.1 h.2 fun j v hv => ?_
  have := hw (n + j) v (by simpa using hv)
  rw [← Nat.add_assoc] at this
  exact this

theorem aFieldAddr_sound (hX : XOk X) (hnr : NR N S w) {h : Heap} (hh : HR N S w h) {a : Act} {o : Oper} {t : Nat} {x : Operand} {f : Nat} (ho : o.op = .fieldAddr t x f) {p : TV} (hp : RepT N S w p (a.eval x)) :
    (aFieldAddr X h t p f).Sound X.P N S w (execOp a.eval o) := by
  have hexec : ∀ v, (Instr.fieldAt t (a.eval x) f).run X.P w = .ok v w → (execOp a.eval o).run X.P w = .ok (.value v) w := by
    intro v h; unfold execOp; rw [ho]; exact run_v h
  unfold aFieldAddr
  split
  · rename_i fs b i off hk
    split
    · rename_i oo u hf
      split
      · trivial
      · rename_i n hsz
        cases hal : alive h b with
        | false => trivial
        | true =>
          obtain ⟨g, hg, hgf⟩ := und_st hX hk
          obtain ⟨fd, h1, h2, h3⟩ := field_of hgf hf
          have hu := ty_ok_of_size hX hsz
          cases hp with | c _ _ hp =>
          obtain ⟨r, hr, hv⟩ := repC_ptr hp (alive_ne hh hal)
          refine goes_pure hnr (hexec (.pointer (some ⟨r.blk, i * r.esz + (off + oo), none⟩)) ?_) (.c _ _ (.ptr b i (off + oo) r hr))
          rw [hv]
          simp [Instr.fieldAt, run_underlying hg, h1, Instr.sureAddr, fieldPlace, h3, sizeOf_ok hX hu, hsz, add_blk, h2, Nat.add_assoc]
    · trivial
  · rename_i fs xs hk
    split
    · rename_i oo u hf
      split
      · trivial
      · rename_i n hsz
        obtain ⟨g, hg, hgf⟩ := und_st hX hk
        obtain ⟨fd, h1, h2, h3⟩ := field_of hgf hf
        have hu := ty_ok_of_size hX hsz
        generalize hv : a.eval x = v at hp
        cases rep_d hp with | rp _ ad vs hoo hs hl hr hw =>
        refine goes_pure hnr (hexec (.pointer (some (ad.add oo))) ?_) (.c _ _ (.d _ _ (repL_nil_drop hoo hs hl hr hw oo)))
        rw [hv]
        simp [Instr.fieldAt, run_underlying hg, h1, Instr.sureAddr, fieldPlace, h3, sizeOf_ok hX hu, hsz, h2]
    · trivial
  · trivial

theorem run_part (hX : XOk X) {t : Nat} (ht : (X.ty t).ok = true) (cs : Array Value) (off : Nat) (hle : off + (X.ty t).size ≤ cs.size) :
    (part t cs off).run X.P w = .ok (ofVals (X.ty t).isAgg ((cs.toList.drop off).take (X.ty t).size)) w := by
  simp only [part, Sem.run_bind, isAgg_run hX ht, Result.andThen_ok]
  cases hag : (X.ty t).isAgg with
  | true =>
    simp only [if_true, Sem.run_bind, sizeOf_ok hX ht, Result.andThen_ok, Sem.run_pure, ofVals]
    congr 2
    apply Array.ext'
    simp [Nat.add_sub_cancel_left]
  | false =>
    have h1 := size_one hX ht hag
    rw [h1] at hle ⊢
    have hlt : off < cs.size := by omega
    simp only [Bool.false_eq_true, if_false]
    rw [Array.getElem?_eq_getElem hlt]
    have : (cs.toList.drop off).take 1 = [cs[off]] := by
      rw [List.drop_eq_getElem_cons (by simpa using hlt)]
      simp
    rw [this]
    rfl

theorem aField_sound (hX : XOk X) (hnr : NR N S w) {a : Act} {o : Oper} {t : Nat} {x : Operand} {f : Nat} (ho : o.op = .field t x f) {p : TV} (hp : RepT N S w p (a.eval x)) :
    (aField X t p f).Sound X.P N S w (execOp a.eval o) := by
  unfold aField
  split
  · rename_i fs cs hk
    split
    · rename_i oo u hf
      cases hc : ((X.ty u).ok && Nat.ble (oo + (X.ty u).size) cs.length) with
      | false => trivial
      | true =>
        simp only [Bool.and_eq_true] at hc
        obtain ⟨g, hg, hgf⟩ := und_st hX hk
        obtain ⟨fd, h1, h2, h3⟩ := field_of hgf hf
        generalize hv : a.eval x = v at hp
        cases hp with | agg _ vs hp =>
        have hle := Nat.le_of_ble_eq_true hc.2
        have hlen : cs.length = vs.size := by simpa using hp.1
        refine goes_pure hnr (v := ofVals (X.ty u).isAgg ((vs.toList.drop oo).take (X.ty u).size)) ?_ (rep_ofCells (repCL_take _ (repCL_drop _ hp)))
        unfold execOp; rw [ho]; refine run_v ?_
        rw [hv]
        simp only [Instr.field, Sem.run_bind, run_underlying hg, Result.andThen_ok, h1, asAgg, Sem.run_pure, h2, h3]
        exact run_part hX hc.1 vs oo (by omega)
    · trivial
  · trivial

theorem aIndex_sound (hX : XOk X) (hnr : NR N S w) {a : Act} {o : Oper} {t : Nat} {x y : Operand} (ho : o.op = .index t x y) {p i : TV} (hp : RepT N S w p (a.eval x)) (hi : RepT N S w i (a.eval y)) :
    (aIndex X t p i).Sound X.P N S w (execOp a.eval o) := by
  unfold aIndex
  split
  · rename_i n e cs k i hk
    cases hc : ((X.ty e).ok && Nat.beq cs.length (n * (X.ty e).size)) with
    | false => trivial
    | true =>
      simp only [Bool.and_eq_true] at hc
      rintro ⟨h0, h1⟩
      have ht := und_arr hX hk
      generalize hv : a.eval x = v at hp
      cases hp with | agg _ vs hp =>
      have hy := rep_lit hi
      have hlen : cs.length = vs.size := by simpa using hp.1
      have hlen2 := Nat.eq_of_beq_eq_true hc.2
      have hlt : i.toNat < n := by omega
      have hle : i.toNat * (X.ty e).size + (X.ty e).size ≤ n * (X.ty e).size := by rw [← Nat.succ_mul]; exact Nat.mul_le_mul_right _ hlt
      refine goes_pure hnr (v := ofVals (X.ty e).isAgg ((vs.toList.drop (i.toNat * (X.ty e).size)).take (X.ty e).size)) ?_ (rep_ofCells (repCL_take _ (repCL_drop _ hp)))
      unfold execOp; rw [ho]; refine run_v ?_
      rw [hv, hy]
      simp only [Instr.index, Sem.run_bind, run_underlying ht, Result.andThen_ok, asIntOf, Sem.run_pure, h0, h1, and_self, if_true, sizeOf_ok hX hc.1]
      exact run_part hX hc.1 vs _ (by omega)
  · trivial

theorem run_indexAt_slc (hX : XOk X) {t e : Nat} (hk : (X.ty t).k = .slc e) (he : (X.ty e).ok = true) (a : Addr) (len cap : Nat) (k : IntKind) (i : Int) (h0 : 0 ≤ i) (h1 : i < len) :
    (Instr.indexAt t (.slice (some a) len cap) (.int k i)).run X.P w = .ok (.pointer (some (a.add (i.toNat * (X.ty e).size)))) w := by
  simp [Instr.indexAt, run_underlying (und_slc hX hk), asIntOf, h0, h1, sizeOf_ok hX he]

theorem run_indexAt_arr (hX : XOk X) {t n e : Nat} (hk : (X.ty t).k = .arr n e) (he : (X.ty e).ok = true) (a : Addr) (k : IntKind) (i : Int) (h0 : 0 ≤ i) (h1 : i < n) :
    (Instr.indexAt t (.pointer (some a)) (.int k i)).run X.P w = .ok (.pointer (some (a.add (i.toNat * (X.ty e).size)))) w := by
  simp [Instr.indexAt, run_underlying (und_arr hX hk), asIntOf, Instr.sureAddr, h0, h1, sizeOf_ok hX he]

theorem aIndexAddr_sound (hX : XOk X) (hnr : NR N S w) {h : Heap} (hh : HR N S w h) {a : Act} {o : Oper} {t : Nat} {x y : Operand} (ho : o.op = .indexAddr t x y) {p i : TV} (hp : RepT N S w p (a.eval x)) (hi : RepT N S w i (a.eval y)) :
    (aIndexAddr X h t p i).Sound X.P N S w (execOp a.eval o) := by
  have hexec : ∀ v, (Instr.indexAt t (a.eval x) (a.eval y)).run X.P w = .ok v w → (execOp a.eval o).run X.P w = .ok (.value v) w := by
    intro v h; unfold execOp; rw [ho]; exact run_v h
  unfold aIndexAddr
  split
  · rename_i n e b j off k i hk
    cases hc : (alive h b && (X.ty e).ok) with
    | false => trivial
    | true =>
      simp only [Bool.and_eq_true] at hc
      rintro ⟨h0, h1⟩
      cases hp with | c _ _ hp =>
      obtain ⟨r, hr, hv⟩ := repC_ptr hp (alive_ne hh hc.1)
      refine goes_pure hnr (hexec _ (by rw [hv, rep_lit hi]; exact run_indexAt_arr hX hk hc.2 _ k i h0 h1)) ?_
      rw [add_blk, Nat.add_assoc]
      exact .c _ _ (.ptr b j _ r hr)
  · rename_i n e xs k i hk
    cases hc : (X.ty e).ok with
    | false => trivial
    | true =>
      rintro ⟨h0, h1⟩
      generalize hv : a.eval x = v at hp
      cases rep_d hp with | rp _ ad vs hoo hs hl hr hw =>
      exact goes_pure hnr (hexec _ (by rw [hv, rep_lit hi]; exact run_indexAt_arr hX hk hc ad k i h0 h1)) (.c _ _ (.d _ _ (repL_nil_drop hoo hs hl hr hw _)))
  · rename_i e k l k' i hk
    cases hc : ((X.ty e).ok && Nat.beq k.size (X.ty e).size) with
    | false => trivial
    | true =>
      simp only [Bool.and_eq_true] at hc
      have hsz := Nat.eq_of_beq_eq_true hc.2
      rintro ⟨h0, h1⟩
      generalize hv : a.eval x = v at hp
      cases rep_d hp with
      | slnil _ _ _ => simp at h1; omega
      | sl _ _ ad c vs hoo hs hcc hm hl hr hw =>
        have hlt : i.toNat < l.length := by omega
        refine goes_pure hnr (hexec _ (by rw [hv, rep_lit hi]; exact run_indexAt_slc hX hk hc.1 ad _ c k' i h0 h1)) (.c _ _ (.d _ _ ?_))
        have he := repL_elem k l vs ⟨hl, hr⟩ i.toNat hlt
        rw [add_spot hs, ← hsz]
        refine .rp _ _ _ (fun hne => hoo (by intro e; subst e; simp at hne)) rfl he.1 he.2 fun j v hv => ?_
        rw [List.getElem?_take] at hv
        split at hv
        · have := hw (i.toNat * k.size + j) v (by simpa using hv)
          rw [← Nat.add_assoc] at this
          exact this
        · cases hv
  · rename_i e b k i hk
    split
    · rename_i kk l hb
      cases hc : ((X.ty e).ok && Nat.beq kk.size (X.ty e).size) with
      | false => trivial
      | true =>
        simp only [Bool.and_eq_true] at hc
        have hsz := Nat.eq_of_beq_eq_true hc.2
        rintro ⟨h0, h1⟩
        obtain ⟨hm, ⟨hn, hl⟩ | ⟨r, ws, T, h1', h2, h3, h4, h5, h6, h7⟩⟩ := hh b _ hb
        · subst hl; simp at h1; omega
        · cases hp with | c _ _ hp =>
          generalize hv : a.eval x = v at hp
          cases hp with
          | own0 _ _ hd => rw [h1'] at hd; cases hd
          | ownD _ _ hd _ => rw [h1'] at hd; cases hd
          | own _ r' hr' =>
            rw [h1'] at hr'
            cases hr'
            refine goes_pure hnr (hexec _ (by rw [hv, rep_lit hi, h3]; exact run_indexAt_slc hX hk hc.1 _ _ _ k i h0 h1)) ?_
            rw [add_blk, ← hsz, ← h2]
            have := RepC.ptr (N := N) (S := S) (w := w) b i.toNat 0 r h1'
            rw [Nat.add_zero] at this
            rw [Nat.zero_add]
            exact .c _ _ this
    · trivial
  · rename_i e b oo n k i hk
    split
    · rename_i kk l hb
      cases hc : ((X.ty e).ok && Nat.beq kk.size (X.ty e).size) with
      | false => trivial
      | true =>
        simp only [Bool.and_eq_true] at hc
        have hsz := Nat.eq_of_beq_eq_true hc.2
        rintro ⟨h0, h1⟩
        obtain ⟨hm, hbr⟩ := hh b _ hb
        cases hp with | c _ _ hp =>
        generalize hv : a.eval x = v at hp
        cases hp with
        | view0 _ _ _ hd => simp at h1; omega
        | viewD _ _ _ _ hd _ =>
          rcases hbr with ⟨hn, _⟩ | ⟨r, _, _, h1', _⟩
          · rw [hn] at hd; cases hd
          · rw [h1'] at hd; cases hd
        | view _ _ _ c r hr hc1 hc2 hc3 =>
          rcases hbr with ⟨hn, _⟩ | ⟨r', ws, T, h1', h2, _⟩
          · rw [hn] at hr; cases hr
          · rw [h1'] at hr
            cases hr
            refine goes_pure hnr (hexec _ (by rw [hv, rep_lit hi]; exact run_indexAt_slc hX hk hc.1 _ _ _ k i h0 h1)) ?_
            rw [add_blk, ← hsz, ← h2, ← Nat.add_mul]
            have := RepC.ptr (N := N) (S := S) (w := w) b (oo + i.toNat) 0 _ h1'
            rw [Nat.add_zero] at this
            exact .c _ _ this
    · trivial
  · trivial

end
end Go.Abs
