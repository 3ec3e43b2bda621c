/- clear, make, len; slices of one's own. -/
import Derived.Test.YtlknhkocpjjkdaaAbsOps10
import Derived.IntWalk
set_option linter.all false
set_option linter.unusedVariables false
set_option linter.unusedSimpArgs false
namespace Go.Abs
section
variable {X : Ctx} {N : Names} {S : Nat → Prop} {w : World}

theorem zeroCells_get (z : Array Value) (n i : Nat) (h : i < n * z.size) : (Builtin.zeroCells z n)[i]? = z[i % z.size]? := by
  have h0 : 0 < z.size := by
    rcases Nat.eq_zero_or_pos z.size with e | e
    · rw [e] at h; simp at h
    · exact e
  have h1 : i % z.size < z.size := Nat.mod_lt _ h0
  simp [Builtin.zeroCells, h, h1]

theorem zero_elems {O : Nat → Prop} {k : EK} {zv : k.T} {z : Array Value} (hz : z.size = k.size) (hr : RepL O w (k.enc zv) z.toList) (n : Nat) : RepL O w ((List.replicate n zv).flatMap k.enc) (Builtin.zeroCells z n).toList := by
  refine ⟨by rw [flat_length]; simp [size_zeroCells, hz], fun i x v hx hv => ?_⟩
  have hi : i < n * k.size := by
    rcases Nat.lt_or_ge i (n * k.size) with h | h
    · exact h
    · rw [List.getElem?_eq_none (by rw [flat_length]; simpa using h)] at hx; cases hx
  have hp := k.pos
  have hv' : (Builtin.zeroCells z n)[i]? = some v := by simpa using hv
  rw [zeroCells_get z n i (by rw [hz]; exact hi), hz] at hv'
  have e : i = (i / k.size) * k.size + i % k.size := by rw [Nat.mul_comm]; exact (Nat.div_add_mod i k.size).symm
  have hq : i / k.size < n := Nat.div_lt_of_lt_mul (by rw [Nat.mul_comm]; exact hi)
  rw [e, flat_get k _ (i / k.size) (i % k.size) (by simpa using hq) (Nat.mod_lt _ hp)] at hx
  have : (List.replicate n zv).getD (i / k.size) default = zv := by simp [List.getD, hq]
  rw [this] at hx
  exact hr.2 _ x v hx (by simpa using hv')

theorem run_clear_call {P : Program} {a : Act} {o : Oper} {x : Operand} {t : Nat} (ho : o.op = .call { callee := .builtin .clear, args := #[x], argTypes := #[t] }) :
    (execOp a.eval o).run P w = ((Builtin.clear_ #[t] o.type #[a.eval x]).run P w).andThen fun v w' => .ok (.value v) w' := by
  unfold execOp; rw [ho]
  simp [resolve, invoke, builtin]

theorem run_clear_nil {P : Program} {t ty e : TypeId} (h1 : P.underlying t = some (.slice e)) (s : Option Addr) (c : Nat) : (Builtin.clear_ #[t] ty #[.slice s 0 c]).run P w = .ok (.tuple #[]) w := by
  cases s <;> simp [Builtin.clear_, run_underlying h1]

theorem run_clear {P : Program} {t ty e : TypeId} (h1 : P.underlying t = some (.slice e)) {i : TypeInfo} (hi : P.info? e = some i) {z : Value} (hz : i.zero = some z) (ad : Addr) (n c : Nat) (hn : n ≠ 0) :
    (Builtin.clear_ #[t] ty #[.slice (some ad) n c]).run P w = ((storeCells ad (Builtin.zeroCells z.cells n).toList).run P w).andThen fun _ w' => .ok (.tuple #[]) w' := by
  cases n with
  | zero => exact absurd rfl hn
  | succ n => simp [Builtin.clear_, run_underlying h1, zeroValue, typeInfo, hi, hz]

theorem aClear_sound (hX : XOk X) (hnr : NR N S w) {h : Heap} (hh : HR N S w h) {a : Act} {o : Oper} {x : Operand} {t : Nat} (ho : o.op = .call { callee := .builtin .clear, args := #[x], argTypes := #[t] })
    {p : TV} (hp : RepT N S w p (a.eval x)) : (aClear X h t p).Sound X.P N S w (execOp a.eval o) := by
  have hcall := run_clear_call (P := X.P) (w := w) (a := a) ho
  have htup : ∀ N' w', RepT N' S w' (.tup []) (.tuple #[]) := fun N' w' => .tup [] #[] rfl (by simp)
  unfold aClear
  split
  · rename_i e x' hk
    have hut := und_slc hX hk
    split
    · rename_i k hek
      have hok : (X.ty e).ok = true := by
        cases hok : (X.ty e).ok with
        | true => rfl
        | false => have := (hX.kind e hok).2.2; rw [hek] at this; cases this
      obtain ⟨hks, hby⟩ := (hX.ty e hok).ek k hek
      obtain ⟨j, z, hj, hjz, hjs, hzs, hzr⟩ := zero_rep (N := N) (S := S) (w := w) (hX.ty e hok)
      split
      · rename_i zv hfit
        have hze := fit_rep hfit hzr
        have hzc : z.cells.size = k.size := by omega
        cases hp with | c _ _ hp =>
        have main : ∀ (b0 : Nat) (xs : List k.T) (oo n : Nat) (s0 : Option Addr) (c0 : Nat), asSl h k (.own b0) = some xs → a.eval x = .slice s0 n c0 →
            (n = 0 ∨ ∃ r cur T, N b0 = .live r ∧ RowOf N S w k xs r cur T ∧ s0 = some ⟨r.blk, oo * k.size, none⟩ ∧ oo + n ≤ xs.length) →
            OpGoes X.P N S w (execOp a.eval o) (.tup []) [(b0, .data k (splice xs oo (List.replicate n zv)))] := by
          intro b0 xs oo n s0 c0 hx hv hcase
          by_cases h0 : n = 0
          · subst h0
            rw [hv, run_clear_nil hut] at hcall
            rw [List.replicate_zero, splice_nil]
            exact ⟨_, w, N, .inl hcall, htup _ _, step_same hnr hh (asSl_look hx)⟩
          · rcases hcase with h1 | ⟨r, cur, T, h1, h2, h3, h4⟩
            · exact absurd h1 h0
            · subst h3
              obtain ⟨w', hst, hstep⟩ := seg_write (P := X.P) hnr h1 h2 (own_row hh hx).1 oo (List.replicate n zv) _ (zero_elems hzc hze n) (by simpa using h4)
              rw [hv, run_clear hut hj hjz _ n c0 h0, hst] at hcall
              exact ⟨_, w', N, .inl hcall, htup _ _, hstep⟩
        split
        · rename_i b0
          split
          · rename_i xs hxs
            generalize hv : a.eval x = v at hp
            have hsp : splice xs 0 (List.replicate xs.length zv) = List.replicate xs.length zv := by simp [splice]
            rcases (own_row hh hxs).2 with ⟨hn, rfl⟩ | ⟨r, cur, T, h1, h2⟩
            · cases hp with
              | own0 _ ad _ => have := main b0 [] 0 0 ad 0 hxs hv (.inl rfl); exact this
              | own _ r hr => rw [hn] at hr; cases hr
              | ownD _ _ hd _ => rw [hn] at hd; cases hd
            · cases hp with
              | own0 _ ad hd => rw [h1] at hd; cases hd
              | ownD _ _ hd _ => rw [h1] at hd; cases hd
              | own _ r' hr' =>
                rw [h1] at hr'
                cases hr'
                rw [h2.len] at hv
                have := main b0 xs 0 xs.length _ _ hxs hv (.inr ⟨r, cur, T, h1, h2, by simp, by omega⟩)
                rw [hsp] at this
                exact this
          · trivial
        · rename_i b0 oo n
          split
          · rename_i xs hxs
            generalize hv : a.eval x = v at hp
            rcases (own_row hh hxs).2 with ⟨hn, rfl⟩ | ⟨r, cur, T, h1, h2⟩
            · cases hp with
              | view0 _ _ ad _ => exact main b0 [] oo 0 ad 0 hxs hv (.inl rfl)
              | view _ _ _ c r hr => rw [hn] at hr; cases hr
              | viewD _ _ _ _ hd _ => rw [hn] at hd; cases hd
            · cases hp with
              | viewD _ _ _ _ hd _ => rw [h1] at hd; cases hd
              | view0 _ _ ad _ => exact main b0 xs oo 0 ad 0 hxs hv (.inl rfl)
              | view _ _ _ c r' hr' hc1 hc2 hc3 =>
                rw [h1] at hr'
                cases hr'
                exact main b0 xs oo n _ c hxs hv (.inr ⟨r, cur, T, h1, h2, by rw [h2.esz], by have := h2.len; omega⟩)
          · trivial
        · trivial
      · trivial
    · trivial
  · trivial

theorem run_make {P : Program} {t e : TypeId} (h1 : P.underlying t = some (.slice e)) {i : TypeInfo} (hi : P.info? e = some i) {z : Value} (hz : i.zero = some z) (hs : z.cells.size = i.size) (h0 : 0 < i.size) {k1 k2 : IntKind} (l c : Int) (hl : 0 ≤ l) (hlc : l ≤ c) (hc : c ≤ 68719476736) (hb : i.bytes ≤ 1024) :
    (Instr.makeSlice t (.int k1 l) (.int k2 c)).run P w = .ok (.slice (some ⟨w.heap.size, 0, none⟩) l.toNat c.toNat) (w.alloc (.cells (Builtin.zeroCells z.cells c.toNat) e)) := by
  have w1 : IntKind.i64.wrap l = l := IntWalk.i64_in l (by omega)
  have w2 : IntKind.i64.wrap c = c := IntWalk.i64_in c (by omega)
  have hbc : (i.bytes : Int) * c ≤ 1024 * 68719476736 := Int.mul_le_mul (by omega) hc (by omega) (by omega)
  have hbl : (i.bytes : Int) * l ≤ 1024 * 68719476736 := Int.mul_le_mul (by omega) (by omega) hl (by omega)
  have t1 : ¬ (281474976710656 < (i.bytes : Int) * c) := by omega
  have t2 : ¬ (281474976710656 < (i.bytes : Int) * l) := by omega
  have n1 : ¬ c < 0 := by omega
  have n2 : ¬ l < 0 := by omega
  have n3 : ¬ c < l := by omega
  by_cases hz0 : c.toNat = 0
  · have : Builtin.zeroCells z.cells 0 = #[] := by simp [Builtin.zeroCells]
    simp [Instr.makeSlice, run_underlying h1, asInt, asIntOf, typeInfo, hi, w1, w2, t1, n1, n2, n3, sizeOf, hz0, this, newRow]
    have e0 : (Array.range 0).map (fun _ => (default : Value)) = #[] := by simp [Array.range_zero']
    rw [e0]
  · have hne : ¬ (c.toNat * i.size = 0) := by
      intro h
      rcases Nat.mul_eq_zero.1 h with h | h
      · exact hz0 h
      · omega
    have e : (Array.range (c.toNat * i.size)).map (fun x => z.cells[x % z.cells.size]!) = Builtin.zeroCells z.cells c.toNat := by
      unfold Builtin.zeroCells
      rw [hs]
    simp [Instr.makeSlice, run_underlying h1, asInt, asIntOf, typeInfo, hi, hz, w1, w2, t1, n1, n2, n3, sizeOf, hne, zeroValue, newRow]
    rw [e]

theorem aMake_sound (hX : XOk X) (hnr : NR N S w) {base : Nat} (hf : N base = .unused) {a : Act} {o : Oper} {t : Nat} {x y : Operand} (ho : o.op = .makeSlice t x y) {p q : TV} (hp : RepT N S w p (a.eval x)) (hq : RepT N S w q (a.eval y)) :
    (aMake X base t p q).Sound X.P N S w (execOp a.eval o) := by
  unfold aMake
  split
  · rename_i e l c hk
    have hut := und_slc hX hk
    split
    · rename_i k hek
      have hok : (X.ty e).ok = true := by
        cases hok : (X.ty e).ok with
        | true => rfl
        | false => have := (hX.kind e hok).2.2; rw [hek] at this; cases this
      obtain ⟨hks, hby⟩ := (hX.ty e hok).ek k hek
      obtain ⟨j, z, hj, hjz, hjs, hzs, hzr⟩ := zero_rep (N := N) (S := S) (w := w) (hX.ty e hok)
      obtain ⟨j', _, hj', _, hjb, _⟩ := (hX.ty e hok).info
      rw [hj] at hj'
      cases hj'
      split
      · rename_i zv hfit
        have hze := fit_rep hfit hzr
        have hzc : z.cells.size = k.size := by omega
        rintro ⟨h0, h1, h2⟩
        simp only [most] at h2
        have hrun := run_make (P := X.P) (w := w) hut hj hjz (by omega) (by have := k.pos; omega) (k1 := .i64) (k2 := .i64) l c h0 h1 (by omega) (by omega)
        have hall := zero_elems (O := OO N S) (w := w) hzc hze c.toNat
        have hlen : (List.replicate l.toNat zv).length = l.toNat := List.length_replicate
        have htk : RepL (OO N S) w ((List.replicate l.toNat zv).flatMap k.enc) ((Builtin.zeroCells z.cells c.toNat).toList.take ((List.replicate l.toNat zv).length * k.size)) := by
          have := repL_take (l.toNat * k.size) hall
          rw [← flat_take, List.take_replicate] at this
          have e : min l.toNat c.toNat = l.toNat := by omega
          rw [e] at this
          rw [hlen]
          exact this
        obtain ⟨e1, e2⟩ := alloc_data (l := List.replicate l.toNat zv) hnr hf c.toNat (vs := Builtin.zeroCells z.cells c.toNat) e (w1 := w) (WExt.refl _ _) rfl (by rw [hlen]; omega) (by rw [hlen]; simp only [maxN]; omega) (by rw [size_zeroCells, hzc]; exact Nat.le_refl _) htk
        refine ⟨_, _, _, .inl ?_, e1, e2⟩
        rw [hlen]
        unfold execOp; rw [ho]; refine run_v ?_
        rw [rep_lit hp, rep_lit hq]
        exact hrun
      · trivial
    · trivial
  · trivial

theorem run_len_call {P : Program} {a : Act} {o : Oper} {x : Operand} {t : Nat} (ho : o.op = .call { callee := .builtin .len, args := #[x], argTypes := #[t] }) :
    (execOp a.eval o).run P w = ((Builtin.len_ #[t] o.type #[a.eval x]).run P w).andThen fun v w' => .ok (.value v) w' := by
  unfold execOp; rw [ho]
  simp [resolve, invoke, builtin]

theorem aLen_sound (hX : XOk X) (hnr : NR N S w) {h : Heap} (hh : HR N S w h) {a : Act} {o : Oper} {x : Operand} {t : Nat} (ho : o.op = .call { callee := .builtin .len, args := #[x], argTypes := #[t] })
    {p : TV} (hp : RepT N S w p (a.eval x)) : (aLen X h t p).Sound X.P N S w (execOp a.eval o) := by
  have hcall := run_len_call (P := X.P) (w := w) (a := a) ho
  have slcRun : ∀ {e : Nat} (s : Option Addr) (n c : Nat), X.P.underlying t = some (.slice e) → (Builtin.len_ #[t] o.type #[.slice s n c]).run X.P w = .ok (goInt n) w := by
    intro e s n c h
    simp [Builtin.len_, run_underlying h]
  have arrRun : ∀ {n e : Nat} (v : Value), X.P.underlying t = some (.array n e) → (Builtin.len_ #[t] o.type #[v]).run X.P w = .ok (goInt n) w := by
    intro n e v h
    simp [Builtin.len_, run_underlying h]
  unfold aLen
  split
  · rename_i n e _ hk
    rw [arrRun _ (und_arr hX hk)] at hcall
    exact goes_pure hnr hcall (rep_mk rfl)
  · rename_i e hk
    rw [rep_lit hp, slcRun none 0 0 (und_slc hX hk)] at hcall
    exact goes_pure hnr hcall (rep_mk rfl)
  · rename_i e k l hk
    generalize hv : a.eval x = v at hp hcall
    cases rep_d hp with
    | slnil _ s c =>
      rw [slcRun s 0 c (und_slc hX hk)] at hcall
      exact goes_pure hnr hcall (rep_mk rfl)
    | sl _ _ ad c vs _ _ _ _ _ _ _ =>
      rw [slcRun _ l.length c (und_slc hX hk)] at hcall
      exact goes_pure hnr hcall (rep_mk rfl)
  · rename_i e b oo n hk
    split
    · rename_i k l hb
      have hbr := (hh b _ hb).2
      generalize hv : a.eval x = v at hp hcall
      cases hp with | c _ _ hp =>
      cases hp with
      | view0 _ _ s _ => rw [slcRun s 0 0 (und_slc hX hk)] at hcall; exact goes_pure hnr hcall (rep_mk rfl)
      | view _ _ _ c r _ _ _ _ => rw [slcRun _ n c (und_slc hX hk)] at hcall; exact goes_pure hnr hcall (rep_mk rfl)
      | viewD _ _ _ _ hd _ =>
        rcases hbr with ⟨hn, _⟩ | ⟨r, _, _, h1, _⟩
        · rw [hn] at hd; cases hd
        · rw [h1] at hd; cases hd
    · trivial
  · rename_i e b hk
    split
    · rename_i k l hb
      have hbr := (hh b _ hb).2
      generalize hv : a.eval x = v at hp hcall
      cases hp with | c _ _ hp =>
      rcases hbr with ⟨hn, rfl⟩ | ⟨r, _, _, h1, _, h3, _⟩
      · cases hp with
        | own0 _ s _ => rw [slcRun s 0 0 (und_slc hX hk)] at hcall; exact goes_pure hnr hcall (rep_mk rfl)
        | own _ r hr => rw [hn] at hr; cases hr
        | ownD _ _ hd _ => rw [hn] at hd; cases hd
      · cases hp with
        | own0 _ s hd => rw [h1] at hd; cases hd
        | ownD _ _ hd _ => rw [h1] at hd; cases hd
        | own _ r' hr =>
          rw [h1] at hr
          cases hr
          rw [slcRun _ _ _ (und_slc hX hk), h3] at hcall
          exact goes_pure hnr hcall (rep_mk rfl)
    · trivial
  · trivial

end
end Go.Abs
