/- Slicing as a whole; equality; functions and calls; all operations together. -/
import Derived.Test.YtlknhkocpjjkdaaAbsOps12
set_option linter.all false
set_option linter.unusedVariables false
set_option linter.unusedSimpArgs false
namespace Go.Abs
section
variable {X : Ctx} {N : Names} {S : Nat → Prop} {w : World}

theorem slice_own (hX : XOk X) {t e : Nat} (hk : (X.ty t).k = .slc e) (he : (X.ty e).ok = true) {k : EK} (hks : k.size = (X.ty e).size) {b : Nat} {r : RL} (hb : N b = .live r) (hesz : r.esz = k.size) {oo n c : Nat} (h1 : oo + c ≤ r.cap) (h2 : n ≤ c) (h3 : oo + n ≤ r.len)
    {a : Act} {lo hi mx : Option Operand} {li hiI mi : Option Int} (q1 : intO a lo li) (q2 : intO a hi hiI) (q3 : intO a mx mi) (hob : ∀ q, cutOb n li hiI mi = some q → q) :
    ∃ u, (Instr.sliceAt t (.slice (some ⟨r.blk, oo * r.esz, none⟩) n c) (lo.map a.eval) (hi.map a.eval) (mx.map a.eval)).run X.P w = .ok u w ∧
      RepC N S w (.view b (oo + (li.getD 0).toNat) ((hiI.getD n) - li.getD 0).toNat) u := by
  obtain ⟨p0, p1, pn, p2, p3, p4⟩ := cutOb_ok h2 hob
  refine ⟨_, run_slice_slc hX hk he q1 q2 q3 p0 p1 p2 p3 p4, ?_⟩
  have e1 : ((hiI.getD (n : Int)) - li.getD 0).toNat = (hiI.getD (n : Int)).toNat - (li.getD 0).toNat := by omega
  rw [e1]
  by_cases hm : (mi.getD (c : Int)).toNat = (li.getD 0).toNat
  · have e2 : (hiI.getD (n : Int)).toNat - (li.getD 0).toNat = 0 := by omega
    have e3 : (mi.getD (c : Int)).toNat - (li.getD 0).toNat = 0 := by omega
    rw [e2, e3]
    exact .view0 b _ _ (by rw [hb]; simp)
  · rw [if_neg hm, Option.map_some, add_blk, ← hks, ← hesz, ← Nat.add_mul]
    exact .view b _ _ _ r hb (by omega) (by omega) (by omega)

theorem slice_empty (hX : XOk X) {t e : Nat} (hk : (X.ty t).k = .slc e) (he : (X.ty e).ok = true) {s : Option Addr} {cc : Nat}
    {a : Act} {lo hi mx : Option Operand} {li hiI mi : Option Int} (q1 : intO a lo li) (q2 : intO a hi hiI) (q3 : intO a mx mi) (hob : ∀ q, cutOb 0 li hiI mi = some q → q) (hcc : cc = 0) :
    ∃ s', (Instr.sliceAt t (.slice s 0 cc) (lo.map a.eval) (hi.map a.eval) (mx.map a.eval)).run X.P w = .ok (.slice s' 0 0) w ∧ (s = none → s' = none) ∧ ((hiI.getD (0 : Nat)) - li.getD 0).toNat = 0 := by
  subst hcc
  obtain ⟨p0, p1, pn, p2, p3, p4⟩ := cutOb_ok (n := 0) (cap := 0) (Nat.le_refl _) hob
  have e1 : (hiI.getD ((0 : Nat) : Int)).toNat - (li.getD 0).toNat = 0 := by omega
  have e2 : (mi.getD ((0 : Nat) : Int)).toNat - (li.getD 0).toNat = 0 := by omega
  have hm : (mi.getD ((0 : Nat) : Int)).toNat = (li.getD 0).toNat := by omega
  have := run_slice_slc (w := w) (base := s) hX hk he q1 q2 q3 p0 p1 p2 p3 p4
  rw [e1, e2, if_pos hm] at this
  exact ⟨s, this, fun h => h, by omega⟩

theorem run_sliceAt_arr {P : Program} {t n e : Nat} (h : P.underlying t = some (.array n e)) {i : TypeInfo} (hi : P.info? e = some i) (ad : Addr) : (Instr.sliceAt t (.pointer (some ad)) none none none).run P w = .ok (.slice (some (if n = 0 then ad else ad.add (0 * i.size))) n n) w := by
  simp [Instr.sliceAt, run_underlying h, Instr.sureAddr, Instr.sliceBounds, sizeOf, typeInfo, hi]

theorem oInt_none {lk : Nat → TV} {x : Option Operand} (h : oInt (x.map (X.opd lk)) = some none) : x = none := by
  cases x with
  | none => rfl
  | some x =>
    simp only [Option.map_some] at h
    unfold oInt at h
    split at h
    · rename_i he; cases he
    · cases h
    · cases h

theorem aSlice_sound (hX : XOk X) (hnr : NR N S w) {h : Heap} (hh : HR N S w h) {base : Nat} (hf : N base = .unused) {lk : Nat → TV} {a : Act} (hρ : ∀ x, RepT N S w (X.opd lk x) (a.eval x)) {o : Oper} {t : Nat} {x : Operand} {lo hi mx : Option Operand}
    (ho : o.op = .slice t x lo hi mx) : (aSlice X h base t (X.opd lk x) (lo.map (X.opd lk)) (hi.map (X.opd lk)) (mx.map (X.opd lk))).Sound X.P N S w (execOp a.eval o) := by
  have hexec : ∀ v, (Instr.sliceAt t (a.eval x) (lo.map a.eval) (hi.map a.eval) (mx.map a.eval)).run X.P w = .ok v w → (execOp a.eval o).run X.P w = .ok (.value v) w := by
    intro v h; unfold execOp; rw [ho]; exact run_v h
  have hx := hρ x
  generalize X.opd lk x = p at hx
  unfold aSlice
  split
  · rename_i e k l hk e1 e2 e3
    have q1 := oInt_intO hρ e1
    have q2 := oInt_intO hρ e2
    have q3 := oInt_intO hρ e3
    cases hc : (X.ty e).ok with
    | false => trivial
    | true =>
      generalize hv : a.eval x = v at hx hexec
      have hr := rep_d hx
      have main : ∀ (s : Option Addr) (n c : Nat), v = .slice s n c → OpGoes X.P N S w (execOp a.eval o) (.c (.own base)) [(base, .data k [])] := by
        intro s n c hv'
        subst hv'
        have := run_slice_slc (w := w) (base := s) (len := n) (cap := c) hX hk hc q1 q2 q3 (by simp) (by simp) (by simp) (by simp) (by simp)
        simp only [Option.getD_none, Option.getD_some, Int.toNat_zero, Nat.sub_self, if_true] at this
        exact ⟨_, w, _, .inl (hexec _ this), .c _ _ (.own0 base s (setN_same N _ _)), step_nil hnr hf k⟩
      cases hr with
      | slnil _ s c => exact main s 0 c rfl
      | sl _ _ ad c vs _ _ _ _ _ _ _ => exact main _ _ c rfl
  · rename_i e k l li hiI mi _ hk e1 e2 e3
    have q1 := oInt_intO hρ e1
    have q2 := oInt_intO hρ e2
    have q3 := oInt_intO hρ e3
    cases hc : ((X.ty e).ok && Nat.beq k.size (X.ty e).size) with
    | false => trivial
    | true =>
      simp only [Bool.and_eq_true] at hc
      refine need_sound fun hob => ?_
      obtain ⟨u, hu, hr⟩ := aSlice_sl hX hk hc.1 (Nat.eq_of_beq_eq_true hc.2) (rep_d hx) q1 q2 q3 hob
      exact goes_pure hnr (hexec _ hu) (.c _ _ (.d _ _ hr))
  · rename_i e b li hiI mi hk e1 e2 e3
    have q1 := oInt_intO hρ e1
    have q2 := oInt_intO hρ e2
    have q3 := oInt_intO hρ e3
    split
    · rename_i k l hb
      cases hc : ((X.ty e).ok && Nat.beq k.size (X.ty e).size) with
      | false => trivial
      | true =>
        simp only [Bool.and_eq_true] at hc
        refine need_sound fun hob => ?_
        have hbr := (hh b _ hb).2
        generalize hv : a.eval x = v at hx hexec
        cases hx with | c _ _ hx =>
        rcases hbr with ⟨hn, rfl⟩ | ⟨r, ws, T, h1, h2, h3, h4, h5, h6, h7⟩
        · cases hx with
          | own0 _ s _ =>
            obtain ⟨s', hs, _, hz⟩ := slice_empty hX hk hc.1 (s := s) q1 q2 q3 hob rfl
            simp only [List.length_nil] at hz ⊢
            rw [hz]
            exact goes_pure hnr (hexec _ hs) (.c _ _ (.view0 b _ s' (by rw [hn]; simp)))
          | own _ r hr => rw [hn] at hr; cases hr
          | ownD _ _ hd _ => rw [hn] at hd; cases hd
        · cases hx with
          | own0 _ s hd => rw [h1] at hd; cases hd
          | ownD _ _ hd _ => rw [h1] at hd; cases hd
          | own _ r' hr =>
            rw [h1] at hr
            cases hr
            have hso := slice_own (S := S) (w := w) hX hk hc.1 (Nat.eq_of_beq_eq_true hc.2) h1 h2 (oo := 0) (n := l.length) (c := r.cap) (by omega) h4 (by omega) q1 q2 q3 hob
            simp only [Nat.zero_mul, Nat.zero_add] at hso
            obtain ⟨u, hu, hr⟩ := hso
            rw [h3] at hexec
            exact goes_pure hnr (hexec _ hu) (.c _ _ hr)
    · trivial
  · rename_i e b oo n li hiI mi hk e1 e2 e3
    have q1 := oInt_intO hρ e1
    have q2 := oInt_intO hρ e2
    have q3 := oInt_intO hρ e3
    split
    · rename_i k l hb
      cases hc : ((X.ty e).ok && Nat.beq k.size (X.ty e).size) with
      | false => trivial
      | true =>
        simp only [Bool.and_eq_true] at hc
        refine need_sound fun hob => ?_
        have hbr := (hh b _ hb).2
        generalize hv : a.eval x = v at hx hexec
        cases hx with | c _ _ hx =>
        have hnd : N b ≠ .dead := by
          rcases hbr with ⟨hn, _⟩ | ⟨r, _, _, h1, _⟩
          · rw [hn]; simp
          · rw [h1]; simp
        cases hx with
        | viewD _ _ _ _ hd _ => exact absurd hd hnd
        | view0 _ _ s hu =>
          obtain ⟨s', hs, _, hz⟩ := slice_empty hX hk hc.1 (s := s) q1 q2 q3 hob rfl
          rw [hz]
          exact goes_pure hnr (hexec _ hs) (.c _ _ (.view0 b _ s' hu))
        | view _ _ _ c r hr h1 h2 h3 =>
          rcases hbr with ⟨hn, _⟩ | ⟨r', _, _, h1', h2', _⟩
          · rw [hn] at hr; cases hr
          · rw [h1'] at hr
            cases hr
            obtain ⟨u, hu, hr⟩ := slice_own (S := S) (w := w) hX hk hc.1 (Nat.eq_of_beq_eq_true hc.2) h1' h2' h1 h2 h3 q1 q2 q3 hob
            exact goes_pure hnr (hexec _ hu) (.c _ _ hr)
    · trivial
  · rename_i e li hiI mi hk e1 e2 e3
    have q1 := oInt_intO hρ e1
    have q2 := oInt_intO hρ e2
    have q3 := oInt_intO hρ e3
    cases hc : (X.ty e).ok with
    | false => trivial
    | true =>
      simp only [Bool.not_true, cond_false]
      refine need_sound fun hob => ?_
      have hv := rep_lit hx
      rw [hv] at hexec
      obtain ⟨s', hs, h0, _⟩ := slice_empty hX hk hc (s := none) q1 q2 q3 hob rfl
      have := h0 rfl
      subst this
      exact goes_pure hnr (hexec _ hs) (rep_mk rfl)
  · rename_i n e xs hk e1 e2 e3
    cases oInt_none e1
    cases oInt_none e2
    cases oInt_none e3
    split
    · rename_i k hek
      have hok : (X.ty e).ok = true := by
        cases hok : (X.ty e).ok with
        | true => rfl
        | false => have := (hX.kind e hok).2.2; rw [hek] at this; cases this
      obtain ⟨j, z, hj, _, hjs, _⟩ := zero_rep (N := N) (S := S) (w := w) (hX.ty e hok)
      obtain ⟨hks, _⟩ := (hX.ty e hok).ek k hek
      cases hc : (Nat.ble n most && Nat.beq xs.length (n * (X.ty e).size)) with
      | false => trivial
      | true =>
        simp only [Bool.and_eq_true] at hc
        have hn := Nat.le_of_ble_eq_true hc.1
        have hl := Nat.eq_of_beq_eq_true hc.2
        simp only [cond_true]
        split
        · rename_i l hfit
          generalize hv : a.eval x = v at hx hexec
          cases rep_d hx with | rp _ ad vs hoo hs hl' hr hw =>
          obtain ⟨h1, h2⟩ := fitAll_rep hfit (repCL_d (⟨hl', hr⟩ : RepL (OO N S) w xs vs)) (by simpa using hl)
          have had : (if n = 0 then ad else ad.add (0 * j.size)) = ad := by
            split
            · rfl
            · simp [Addr.add]
          have hrun := run_sliceAt_arr (w := w) (und_arr hX hk) hj ad
          rw [had] at hrun
          refine goes_pure hnr (hexec _ hrun) (.c _ _ (.d _ _ ?_))
          have := Rep.sl (O := OO N S) (w := w) k l ad n vs hoo hs (by omega) (by simp only [most, maxN] at *; omega) h1.1 h1.2 hw
          rw [h2] at this
          exact this
        · trivial
    · trivial
  · rename_i n e b hk e1 e2 e3
    cases oInt_none e1
    cases oInt_none e2
    cases oInt_none e3
    split
    · rename_i k cs hek hb
      have hok : (X.ty e).ok = true := by
        cases hok : (X.ty e).ok with
        | true => rfl
        | false => have := (hX.kind e hok).2.2; rw [hek] at this; cases this
      obtain ⟨j, z, hj, _, hjs, _⟩ := zero_rep (N := N) (S := S) (w := w) (hX.ty e hok)
      obtain ⟨hks, _⟩ := (hX.ty e hok).ek k hek
      cases hc : (Nat.ble n most && Nat.beq cs.length (n * (X.ty e).size)) with
      | false => trivial
      | true =>
        simp only [Bool.and_eq_true] at hc
        have hn := Nat.le_of_ble_eq_true hc.1
        have hl := Nat.eq_of_beq_eq_true hc.2
        simp only [cond_true]
        split
        · rename_i l hfit
          obtain ⟨r, vs, T, h1, h2, h3⟩ := hh b _ hb
          cases hx with | c _ _ hx =>
          obtain ⟨r', hr', hpv⟩ := repC_ptr hx (by rw [h1]; simp)
          rw [h1] at hr'
          cases hr'
          obtain ⟨h4, h5⟩ := fitAll_rep hfit h3 hl
          have hvs : vs.size = n * (X.ty e).size := by rw [← hl, h3.1]; simp
          have had : (if n = 0 then (⟨r.blk, 0 * r.esz + 0, none⟩ : Addr) else (⟨r.blk, 0 * r.esz + 0, none⟩ : Addr).add (0 * j.size)) = ⟨r.blk, 0, none⟩ := by
            split <;> simp [Addr.add]
          have hrun := run_sliceAt_arr (w := w) (und_arr hX hk) hj ⟨r.blk, 0 * r.esz + 0, none⟩
          rw [had, ← hpv] at hrun
          have hN : NExt N (setN (setN N b .dead) base (.live ⟨r.blk, n, n, k.size⟩)) w := by
            refine ⟨fun q => ?_, fun kk hkk ⟨q, r', hq, he⟩ => ?_⟩
            · by_cases e1 : q = base
              · subst e1; exact .inl hf
              · by_cases e2 : q = b
                · subst e2; exact .inr (.inr (by rw [setN_other _ _ e1, setN_same]))
                · exact .inr (.inl (by rw [setN_other _ _ e1, setN_other _ _ e2]))
            · by_cases e1 : q = base
              · subst e1; rw [setN_same] at hq; cases hq; exact ⟨b, r, h1, he⟩
              · rw [setN_other _ _ e1] at hq
                by_cases e2 : q = b
                · subst e2; rw [setN_same] at hq; cases hq
                · rw [setN_other _ _ e2] at hq; exact ⟨q, r', hq, he⟩
          refine ⟨_, w, _, .inl (hexec _ hrun), .c _ _ (.own base ⟨r.blk, n, n, k.size⟩ (setN_same _ _ _)), step_rename hnr hf (by rw [h1]; simp) _ (WExt.refl _ _) (by intro r' hr; cases hr; exact .inr ⟨r, h1, rfl⟩) ?_⟩
          refine ⟨by simp only [most, maxN] at *; omega, .inr ⟨_, vs, T, setN_same _ _ _, rfl, h5.symm, by simp [h5], h2, by rw [hvs, hks]; exact Nat.le_refl _, ?_⟩⟩
          have e9 : l.length * k.size = vs.toList.length := by rw [h5, hks, ← hvs]; simp
          rw [e9, List.take_length]
          exact h4.keep (WExt.refl _ _) (hN.oo S)
        · trivial
    · trivial
  · trivial

end
end Go.Abs
