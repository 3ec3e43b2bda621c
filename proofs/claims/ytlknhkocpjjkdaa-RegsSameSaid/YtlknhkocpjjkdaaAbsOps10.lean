/- copy, clear, make, len. -/
import Derived.Test.YtlknhkocpjjkdaaAbsOps9
set_option linter.all false
set_option linter.unusedVariables false
set_option linter.unusedSimpArgs false
namespace Go.Abs
section
variable {X : Ctx} {N : Names} {S : Nat → Prop} {w : World}

/-- What a row of elements is. -/
structure RowOf (N : Names) (S : Nat → Prop) (w : World) (k : EK) (l : List k.T) (r : RL) (cur : Array Value) (T : TypeId) : Prop where
  esz : r.esz = k.size
  len : r.len = l.length
  le : l.length ≤ r.cap
  at_ : w.heap[r.blk]? = some (.cells cur T (0, 0))
  size : r.cap * k.size ≤ cur.size
  rep : RepL (OO N S) w (l.flatMap k.enc) (cur.toList.take (l.length * k.size))

theorem own_row {h : Heap} (hh : HR N S w h) {k : EK} {b : Nat} {xs : List k.T} (hx : asSl h k (.own b) = some xs) : xs.length ≤ maxN ∧ ((N b = .nil ∧ xs = []) ∨ ∃ r cur T, N b = .live r ∧ RowOf N S w k xs r cur T) := by
  simp only [asSl] at hx
  split at hx
  · rename_i k' l hb
    split at hx
    · rename_i e
      subst e
      cases hx
      obtain ⟨hm, hn | ⟨r, ws, T, h1, h2, h3, h4, h5, h6, h7⟩⟩ := hh b _ hb
      · exact ⟨hm, .inl hn⟩
      · exact ⟨hm, .inr ⟨r, ws, T, h1, h2, h3, h4, h5, h6, h7⟩⟩
    · cases hx
  · cases hx

theorem splice_length {α : Type} (l : List α) (o : Nat) (ys : List α) (h : o + ys.length ≤ l.length) : (splice l o ys).length = l.length := by
  simp [splice]; omega

theorem flat_splice (k : EK) (l : List k.T) (o : Nat) (ys : List k.T) : (splice l o ys).flatMap k.enc = (l.flatMap k.enc).take (o * k.size) ++ ys.flatMap k.enc ++ (l.flatMap k.enc).drop (o * k.size + ys.length * k.size) := by
  unfold splice
  rw [List.flatMap_append, List.flatMap_append, flat_take, flat_drop, Nat.add_mul]

theorem take_splice {α : Type} (l : List α) (n o : Nat) (us : List α) (h : o + us.length ≤ n) (hn : n ≤ l.length) :
    (l.take o ++ us ++ l.drop (o + us.length)).take n = (l.take n).take o ++ us ++ (l.take n).drop (o + us.length) := by
  rw [List.take_append, List.take_append, List.take_take, List.take_take]
  have c1 : min n o = o := by omega
  have c2 : min o n = o := by omega
  have c3 : (l.take o).length = o := by simp; omega
  rw [c1, c2, c3, List.take_of_length_le (l := us) (by omega)]
  congr 1
  rw [List.drop_take]
  congr 1
  simp only [List.length_append, c3]

/-- A run of elements is written. -/
theorem seg_write {P : Program} (hnr : NR N S w) {b : Nat} {k : EK} {xs : List k.T} {r : RL} {cur : Array Value} {T : TypeId} (hb : N b = .live r) (hrow : RowOf N S w k xs r cur T) (hm : xs.length ≤ maxN) (o : Nat) (zs : List k.T) (us : List Value)
    (hz : RepL (OO N S) w (zs.flatMap k.enc) us) (hle : o + zs.length ≤ xs.length) :
    ∃ w', (storeCells ⟨r.blk, o * k.size, none⟩ us).run P w = .ok () w' ∧ Step N S w N w' [(b, .data k (splice xs o zs))] := by
  have hul : us.length = zs.length * k.size := by rw [← hz.1, flat_length]
  have h1 : o * k.size + zs.length * k.size ≤ xs.length * k.size := by rw [← Nat.add_mul]; exact Nat.mul_le_mul_right _ hle
  have h2 : xs.length * k.size ≤ r.cap * k.size := Nat.mul_le_mul_right _ hrow.le
  have h3 := hrow.size
  have hst := run_storeCells_at P r.blk (o * k.size) T us 0 cur w hrow.at_ (by omega) (repCL_one (repCL_d hz))
  simp only [Nat.add_zero] at hst
  have hwx := wext_setRow w r.blk cur ((cur.toList.take (o * k.size) ++ us ++ cur.toList.drop (o * k.size + us.length)).toArray) T hrow.at_
  refine ⟨_, hst, step_write hnr hb hwx ?_⟩
  have hsl := splice_length xs o zs hle
  refine ⟨by rw [hsl]; exact hm, .inr ⟨r, _, T, hb, hrow.esz, by rw [hsl]; exact hrow.len, by rw [hsl]; exact hrow.le, setRow_heap w r.blk cur _ T _ hrow.at_, ?_, ?_⟩⟩
  · simp only [List.size_toArray, List.length_append, List.length_take, List.length_drop, Array.length_toList]
    omega
  · rw [hsl]
    show RepL _ _ _ (List.take _ (cur.toList.take (o * k.size) ++ us ++ cur.toList.drop (o * k.size + us.length)))
    rw [take_splice cur.toList _ _ us (by omega) (by simp; omega), flat_splice, ← hul]
    have := (repL_append (repL_append (repL_take (o * k.size) hrow.rep) hz) (repL_drop (o * k.size + us.length) hrow.rep)).keep (oo_write (S := S) hb hwx) ((NExt.refl N w).oo S)
    exact this

theorem run_builtin2 {P : Program} {a : Act} {o : Oper} {x y : Operand} {t u : Nat} (ho : o.op = .call { callee := .builtin .copy, args := #[x, y], argTypes := #[t, u] }) :
    (execOp a.eval o).run P w = ((Builtin.copy_ #[t, u] o.type #[a.eval x, a.eval y]).run P w).andThen fun v w' => .ok (.value v) w' := by
  unfold execOp; rw [ho]
  simp [resolve, invoke, builtin]

theorem run_copy {P : Program} {t u ty e : TypeId} (h1 : P.underlying t = some (.slice e)) {i : TypeInfo} (hi : P.info? e = some i) {base b : Option Addr} {dLen dCap n c : Nat} {news : List Value}
    (hf : (Builtin.firstCells i.size (Nat.min n dLen) (.slice b n c)).run P w = .ok news.toArray w) :
    (Builtin.copy_ #[t, u] ty #[.slice base dLen dCap, .slice b n c]).run P w =
      match base with
      | none => .ok (goInt (Nat.min n dLen)) w
      | some a => ((storeCells a news).run P w).andThen fun _ w' => .ok (goInt (Nat.min n dLen)) w' := by
  cases base <;> simp [Builtin.copy_, run_underlying h1, sizeOf, typeInfo, hi, Builtin.lenOf, hf]

theorem splice_nil {α : Type} (l : List α) (o : Nat) : splice l o [] = l := by simp [splice]

theorem step_same (hnr : NR N S w) {h : Heap} (hh : HR N S w h) {b : Nat} {x : AB} (hb : hlook h b = some x) : Step N S w N w [(b, x)] :=
  ⟨.refl _ _, hnr, .refl _ _, fun _ _ => rfl, fun c y hy => by
    simp only [hlook] at hy
    cases he : Nat.beq b c with
    | false => rw [he] at hy; cases hy
    | true => rw [he] at hy; cases hy; have := Nat.eq_of_beq_eq_true he; subst this; exact hh b _ hb⟩

theorem asSl_look {h : Heap} {k : EK} {b : Nat} {xs : List k.T} (hx : asSl h k (.own b) = some xs) : hlook h b = some (.data k xs) := by
  simp only [asSl] at hx
  split at hx
  · rename_i k' l hb
    split at hx
    · rename_i e; subst e; cases hx; exact hb
    · cases hx
  · cases hx

theorem aCopy_sound (hX : XOk X) (hnr : NR N S w) {h : Heap} (hh : HR N S w h) {a : Act} {o : Oper} {x y : Operand} {t u : Nat} (ho : o.op = .call { callee := .builtin .copy, args := #[x, y], argTypes := #[t, u] })
    {p q : TV} (hp : RepT N S w p (a.eval x)) (hq : RepT N S w q (a.eval y)) : (aCopy X h t p q).Sound X.P N S w (execOp a.eval o) := by
  have hcall := run_builtin2 (P := X.P) (w := w) (a := a) ho
  unfold aCopy
  split
  · rename_i e x' y' hk
    have hut := und_slc hX hk
    split
    · rename_i k hek
      have hok : (X.ty e).ok = true := by
        cases hok : (X.ty e).ok with
        | true => rfl
        | false => have := (hX.kind e hok).2.2; rw [hek] at this; cases this
      obtain ⟨hks, hby⟩ := (hX.ty e hok).ek k hek
      obtain ⟨j, z, hj, _, hjs, _⟩ := (hX.ty e hok).info
      have hsz : j.size = k.size := by omega
      split
      · rename_i ys hys
        cases hp with | c _ _ hp =>
        cases hq with | c _ _ hq =>
        obtain ⟨b, c, news, hyv, hyr, hyl, hyf⟩ := src_run (P := X.P) (asSl_src hh hys hq)
        rw [hyv] at hcall
        have main : ∀ (b0 : Nat) (xs : List k.T) (oo n : Nat) (s0 : Option Addr) (c0 : Nat), asSl h k (.own b0) = some xs → a.eval x = .slice s0 n c0 →
            (n = 0 ∨ ∃ r cur T, N b0 = .live r ∧ RowOf N S w k xs r cur T ∧ s0 = some ⟨r.blk, oo * k.size, none⟩ ∧ oo + n ≤ xs.length) →
            OpGoes X.P N S w (execOp a.eval o) (.int (min ys.length n : Nat)) [(b0, .data k (splice xs oo (ys.take n)))] := by
          intro b0 xs oo n s0 c0 hx hv hcase
          have hfc := hyf (Nat.min ys.length n) (Nat.min_le_left _ _) w (fun _ _ h => h)
          rw [hyv, ← hsz] at hfc
          have hrun := run_copy (w := w) (ty := o.type) (u := u) (base := s0) (dLen := n) (dCap := c0) hut hj hfc
          rw [hv, hrun] at hcall
          rcases hcase with h0 | ⟨r, cur, T, h1, h2, h3, h4⟩
          · subst h0
            have : (Nat.min ys.length 0) = 0 := Nat.min_zero _
            rw [this] at hcall
            rw [List.take_zero, splice_nil, Nat.min_zero]
            refine ⟨.int .i64 (0 : Nat), w, N, .inl ?_, rep_mk rfl, step_same hnr hh (asSl_look hx)⟩
            rw [hcall]
            cases s0 <;> simp [storeCells, goInt]
          · subst h3
            have htk : RepL (OO N S) w ((ys.take n).flatMap k.enc) (news.take (Nat.min ys.length n * j.size)) := by
              rw [flat_take, hsz]
              have := repL_take (Nat.min ys.length n * k.size) hyr
              have e : (ys.flatMap k.enc).take (n * k.size) = (ys.flatMap k.enc).take (Nat.min ys.length n * k.size) := by
                rw [← flat_take, ← flat_take]
                congr 1
                rcases Nat.le_total ys.length n with h | h
                · have e1 : Nat.min ys.length n = ys.length := Nat.min_eq_left h
                  rw [e1, List.take_length, List.take_of_length_le h]
                · have e1 : Nat.min ys.length n = n := Nat.min_eq_right h
                  rw [e1]
              rw [e]
              exact this
            obtain ⟨w', hst, hstep⟩ := seg_write (P := X.P) hnr h1 h2 (own_row hh hx).1 oo (ys.take n) _ htk (by simp; omega)
            refine ⟨.int .i64 (min ys.length n : Nat), w', N, .inl ?_, rep_mk rfl, hstep⟩
            rw [hcall]
            simp only [hst, Result.andThen_ok]
            rfl
        split
        · rename_i b0
          split
          · rename_i xs hxs
            generalize hv : a.eval x = v at hp
            rcases (own_row hh hxs).2 with ⟨hn, rfl⟩ | ⟨r, cur, T, h1, h2⟩
            · cases hp with
              | own0 _ ad _ => exact main b0 [] 0 0 ad 0 hxs hv (.inl rfl)
              | own _ r hr => rw [hn] at hr; cases hr
              | ownD _ _ hd _ => rw [hn] at hd; cases hd
            · cases hp with
              | own0 _ ad hd => rw [h1] at hd; cases hd
              | ownD _ _ hd _ => rw [h1] at hd; cases hd
              | own _ r' hr' =>
                rw [h1] at hr'
                cases hr'
                rw [h2.len] at hv
                exact main b0 xs 0 xs.length _ _ hxs hv (.inr ⟨r, cur, T, h1, h2, by simp, by omega⟩)
          · trivial
        · rename_i b0 oo n
          split
          · rename_i xs hxs
            generalize hv : a.eval x = v at hp
            rcases (own_row hh hxs).2 with ⟨hn, rfl⟩ | ⟨r, cur, T, h1, h2⟩
            · cases hp with
              | view0 _ _ ad _ => exact main b0 [] oo 0 ad 0 hxs hv (.inl rfl)
              | view _ _ _ c r hr => rw [hn] at hr; cases hr
              | viewD _ _ _ _ hd _ => rw [hn] at hd; cases hd
            · cases hp with
              | viewD _ _ _ _ hd _ => rw [h1] at hd; cases hd
              | view0 _ _ ad _ => exact main b0 xs oo 0 ad 0 hxs hv (.inl rfl)
              | view _ _ _ c r' hr' hc1 hc2 hc3 =>
                rw [h1] at hr'
                cases hr'
                exact main b0 xs oo n _ c hxs hv (.inr ⟨r, cur, T, h1, h2, by rw [h2.esz], by have := h2.len; omega⟩)
          · trivial
        · trivial
      · trivial
    · trivial
  · trivial

end
end Go.Abs
