/- append, copy, clear, make: held against what is said of them. -/
import Derived.Test.YtlknhkocpjjkdaaAbsOps8
set_option linter.all false
set_option linter.unusedVariables false
set_option linter.unusedSimpArgs false
namespace Go.Abs
section
variable {X : Ctx} {N : Names} {S : Nat → Prop} {w : World}

theorem append_room {P : Program} {t u e e2 ty : TypeId} (h1 : P.underlying t = some (.slice e)) (h2 : P.underlying u = some (.slice e2)) {i : TypeInfo} (hi : P.info? e = some i) {base b : Option Addr} {sLen sCap n c : Nat} {news : List Value}
    (hf : (Builtin.firstCells i.size n (.slice b n c)).run P w = .ok news.toArray w) (hroom : sLen + n ≤ sCap) :
    (Builtin.append_ #[t, u] ty #[.slice base sLen sCap, .slice b n c]).run P w =
      match base with
      | none => .ok (.slice none (sLen + n) sCap) w
      | some a => ((storeCells (a.add (sLen * i.size)) news).run P w).andThen fun _ w' => .ok (.slice (some a) (sLen + n) sCap) w' := by
  cases base <;> simp [Builtin.append_, run_underlying h1, run_underlying h2, sizeOf, typeInfo, hi, Builtin.lenOf, hroom, hf]

theorem append_grow {P : Program} {t u e e2 ty : TypeId} (h1 : P.underlying t = some (.slice e)) (h2 : P.underlying u = some (.slice e2)) {i : TypeInfo} (hi : P.info? e = some i) {z : Value} (hz : i.zero = some z) {base b : Option Addr} {sLen sCap n c : Nat} {olds news : List Value}
    (hfo : (Builtin.firstCells i.size sLen (.slice base sLen sCap)).run P w.drew = .ok olds.toArray w.drew)
    (hf : (Builtin.firstCells i.size n (.slice b n c)).run P w.drew = .ok news.toArray w.drew) (hg : sCap < sLen + n) (h63 : sLen + n ≤ 9223372036854775807) (hfit : Builtin.nextslicecap (sLen + n) sCap * i.bytes ≤ 281474976710656) :
    (Builtin.append_ #[t, u] ty #[.slice base sLen sCap, .slice b n c]).run P w =
      .ok (.slice (some ⟨w.heap.size, 0, none⟩) (sLen + n) (grownCap w (sLen + n) sCap e))
        (w.drew.alloc (.cells (olds.toArray ++ news.toArray ++ Builtin.zeroCells z.cells (grownCap w (sLen + n) sCap e - (sLen + n))) e)) := by
  have hn : ¬ (sLen + n ≤ sCap) := by omega
  have h63' : ¬ (9223372036854775807 < ((sLen : Int) + (n : Int))) := by omega
  have h48' : ¬ (281474976710656 < Builtin.nextslicecap (sLen + n) sCap * i.bytes) := by omega
  simp [Builtin.append_, run_underlying h1, run_underlying h2, sizeOf, typeInfo, zeroValue, hi, hz, Builtin.lenOf, hn, h63', h48', Question.forced, hf, hfo, newRow, grownCap]
  rw [← Array.append_assoc]
  simp

theorem take_all {α : Type} (l : List α) (n : Nat) (h : l.length = n) : l.take n = l := by rw [← h, List.take_length]

/-- The call of append. -/
theorem run_append_call {P : Program} {a : Act} {o : Oper} {x y : Operand} {t u : Nat} {b : Builtin} (hb : b = .append) (ho : o.op = .call { callee := .builtin b, args := #[x, y], argTypes := #[t, u] }) :
    (execOp a.eval o).run P w = ((Builtin.append_ #[t, u] o.type #[a.eval x, a.eval y]).run P w).andThen fun v w' => .ok (.value v) w' := by
  subst hb
  unfold execOp; rw [ho]
  simp [resolve, invoke, builtin]

theorem grown_data {e : Nat} {k : EK} {zs : List k.T} {olds news : List Value} (cap : Nat) (hc : zs.length ≤ cap) (hm : zs.length ≤ maxN) (hr : RepL (OO N S) w (zs.flatMap k.enc) (olds ++ news)) (z : Value) (hz : z.cells.size = k.size) :
    ∀ w1 : World, WExt (fun _ => False) w w1 → w1.heap.size = w.heap.size → ∀ N' : Names, NExt N N' w → ∀ base, N' base = .live ⟨w.heap.size, cap, zs.length, k.size⟩ →
      BR N' S (w1.alloc (.cells (olds.toArray ++ news.toArray ++ Builtin.zeroCells z.cells (cap - zs.length)) e)) base (.data k zs) := by
  intro w1 hw1 he N' hn base hb
  have hx : WExt (fun _ => False) w (w1.alloc (.cells (olds.toArray ++ news.toArray ++ Builtin.zeroCells z.cells (cap - zs.length)) e)) := hw1.trans (wext_alloc w1 _) (fun _ _ h => h.elim)
  have hlen : (olds ++ news).length = zs.length * k.size := by rw [← hr.1, flat_length]
  refine ⟨hm, .inr ⟨_, olds.toArray ++ news.toArray ++ Builtin.zeroCells z.cells (cap - zs.length), e, hb, rfl, rfl, hc, ?_, ?_, ?_⟩⟩
  · have := Go.heap_alloc_new w1 (.cells (olds.toArray ++ news.toArray ++ Builtin.zeroCells z.cells (cap - zs.length)) e)
    rw [he] at this
    exact this
  · simp only [Array.size_append, List.size_toArray, size_zeroCells, hz]
    rw [List.length_append] at hlen
    rw [hlen, ← Nat.add_mul]
    exact Nat.mul_le_mul_right _ (by omega)
  · simp only [Array.toList_append]
    rw [← hlen, List.take_left]
    exact hr.keep (hx.mono (fun _ _ h => h.elim)) (hn.oo S)

theorem aAppend_sound (hX : XOk X) (hnr : NR N S w) {h : Heap} (hh : HR N S w h) {base : Nat} (hf : N base = .unused) {a : Act} {o : Oper} {x y : Operand} {t u : Nat} (ho : o.op = .call { callee := .builtin .append, args := #[x, y], argTypes := #[t, u] })
    {e2 : Nat} (hku : (X.ty u).k = .slc e2) {p q : TV} (hp : RepT N S w p (a.eval x)) (hq : RepT N S w q (a.eval y)) : (aAppend X h base t p q).Sound X.P N S w (execOp a.eval o) := by
  have hcall := run_append_call (P := X.P) (w := w) (a := a) rfl ho
  unfold aAppend
  split
  · rename_i e x' y' hk
    have hut := und_slc hX hk
    have huu := und_slc hX hku
    split
    · rename_i k hek
      have hok : (X.ty e).ok = true := by
        cases hok : (X.ty e).ok with
        | true => rfl
        | false => have := (hX.kind e hok).2.2; rw [hek] at this; cases this
      obtain ⟨hks, hby⟩ := (hX.ty e hok).ek k hek
      obtain ⟨j, z, hj, hjz, hjs, hzs, _⟩ := zero_rep (N := N) (S := S) (w := w) (hX.ty e hok)
      obtain ⟨j', _, hj', hjs', hjb, _⟩ := (hX.ty e hok).info
      rw [hj] at hj'
      cases hj'
      split
      · rename_i ys hys
        cases hp with | c _ _ hp =>
        cases hq with | c _ _ hq =>
        have hsrc := asSl_src hh hys hq
        obtain ⟨b, c, news, hyv, hyr, hyl, hyf⟩ := src_run (P := X.P) hsrc
        have hsz : j.size = k.size := by omega
        have hfw : ∀ w', (∀ a u, w.cell? a = some u → w'.cell? a = some u) → (Builtin.firstCells j.size ys.length (.slice b ys.length c)).run X.P w' = .ok news.toArray w' := by
          intro w' hw'
          have := hyf ys.length (Nat.le_refl _) w' hw'
          rw [take_all news _ hyl, hyv] at this
          rw [hsz]
          exact this
        have hzsz : z.cells.size = k.size := by omega
        have main : ∀ (b0 : Nat) (xs : List k.T) (hasb : Bool) (s0 : Option Addr) (cap0 : Nat), (hasb = true → N b0 ≠ .unused) → a.eval x = .slice s0 xs.length cap0 →
            (xs.length + ys.length ≤ most) →
            ((xs = [] ∧ cap0 = 0) ∨ (hasb = true ∧ ∃ r cur T, N b0 = .live r ∧ s0 = some ⟨r.blk, 0, none⟩ ∧ w.heap[r.blk]? = some (.cells cur T (0, 0)) ∧ cap0 * k.size ≤ cur.size ∧ RepL (OO N S) w (xs.flatMap k.enc) (cur.toList.take (xs.length * k.size)))) →
            OpGoes X.P N S w (execOp a.eval o) (.c (.own base)) (match hasb with | true => [(base, .data k (xs ++ ys)), (b0, .dead)] | false => [(base, .data k (xs ++ ys))]) := by
          intro b0 xs hasb s0 cap0 hb0 hxv hmost hcase
          have hmx : (xs ++ ys).length ≤ maxN := by simp only [List.length_append, maxN, most] at *; omega
          rw [hyv] at hcall
          rw [hxv] at hcall
          rcases Nat.lt_or_ge cap0 (xs.length + ys.length) with hgrow | hroom
          · -- it grows
            have hfit : Builtin.nextslicecap (xs.length + ys.length) cap0 * j.bytes ≤ 281474976710656 := by
              refine growslice_fits hgrow ?_
              have hm' : xs.length + ys.length ≤ 68719476736 := hmost
              have h1 : (xs.length + ys.length) * j.bytes ≤ 68719476736 * 1024 := Nat.mul_le_mul hm' (by omega)
              omega
            have hold : ∃ olds : List Value, (Builtin.firstCells j.size xs.length (.slice s0 xs.length cap0)).run X.P w.drew = .ok olds.toArray w.drew ∧ RepL (OO N S) w (xs.flatMap k.enc) olds := by
              rcases hcase with ⟨rfl, rfl⟩ | ⟨_, r, cur, T, h1, h4, h5, h6, h7⟩
              · refine ⟨[], ?_, repL_nil⟩
                cases s0 with
                | none => simp [run_firstCells_none]
                | some ad => exact run_firstCells_some (P := X.P) w.drew j.size 0 ad 0 0 [] (by simp) (by intro j v hv; simp at hv)
              · refine ⟨_, ?_, h7⟩
                subst h4
                have hl := h7.1
                rw [flat_length] at hl
                refine run_firstCells_some (P := X.P) w.drew j.size xs.length _ _ _ _ (by rw [hsz]; exact hl.symm) fun i v hv => ?_
                rw [add_blk, Nat.zero_add]
                rw [List.getElem?_take] at hv
                split at hv
                · show w.cell? _ = _
                  simp only [World.cell?, h5]
                  simpa using hv
                · cases hv
            obtain ⟨olds, hfo, hor⟩ := hold
            have hrun := append_grow (w := w) (ty := o.type) hut huu hj hjz hfo (hfw w.drew (fun _ _ h => h)) hgrow (by simp only [most] at hmost; omega) hfit
            have hge := grownCap_ge w (xs.length + ys.length) cap0 e
            have hlen : (xs ++ ys).length = xs.length + ys.length := List.length_append
            have hbr := grown_data (e := e) (zs := xs ++ ys) (olds := olds) (news := news) (grownCap w (xs.length + ys.length) cap0 e) (by rw [hlen]; exact hge) hmx (by rw [List.flatMap_append]; exact repL_append hor hyr) z hzsz w.drew (wext_drew w) rfl
            rw [hlen] at hbr
            rw [hrun] at hcall
            have hwx : WExt (fun _ => False) w (w.drew.alloc (.cells (olds.toArray ++ news.toArray ++ Builtin.zeroCells z.cells (grownCap w (xs.length + ys.length) cap0 e - (xs.length + ys.length))) e)) := (wext_drew w).trans (wext_alloc _ _) (fun _ _ h => h.elim)
            cases hasb with
            | false =>
              have hN := nx_new (w := w) hf ⟨w.heap.size, grownCap w (xs.length + ys.length) cap0 e, xs.length + ys.length, k.size⟩ rfl
              exact ⟨_, _, _, .inl hcall, .c _ _ (.own base _ (setN_same N _ _)), step_new hnr hf _ rfl hwx (by simp) (hbr _ hN base (setN_same N _ _))⟩
            | true =>
              have hst := step_rename (N := N) (S := S) (w := w) hnr hf (hb0 rfl) (.live ⟨w.heap.size, grownCap w (xs.length + ys.length) cap0 e, xs.length + ys.length, k.size⟩) (hwx.mono (fun _ _ h => h.elim)) (by intro r hr; cases hr; exact .inl ⟨rfl, by simp⟩) (x := .data k (xs ++ ys))
              refine ⟨_, _, _, .inl hcall, .c _ _ (.own base _ (setN_same _ _ _)), hst (hbr _ ?_ base (setN_same _ _ _))⟩
              have hN := nx_new (w := w) hf ⟨w.heap.size, grownCap w (xs.length + ys.length) cap0 e, xs.length + ys.length, k.size⟩ rfl
              refine ⟨fun q => ?_, fun kk hk ⟨q, r, hq, he⟩ => ?_⟩
              · by_cases e1 : q = base
                · subst e1; exact .inl hf
                · by_cases e2 : q = b0
                  · subst e2; exact .inr (.inr (by rw [setN_other _ _ e1, setN_same]))
                  · exact .inr (.inl (by rw [setN_other _ _ e1, setN_other _ _ e2]))
              · by_cases e1 : q = base
                · subst e1; rw [setN_same] at hq; cases hq; simp at he; omega
                · rw [setN_other _ _ e1] at hq
                  by_cases e2 : q = b0
                  · subst e2; rw [setN_same] at hq; cases hq
                  · rw [setN_other _ _ e2] at hq; exact ⟨q, r, hq, he⟩
          · -- there is room
            have hrun := append_room (w := w) (ty := o.type) (base := s0) (sLen := xs.length) (sCap := cap0) hut huu hj (hfw w (fun _ _ h => h)) hroom
            rw [hrun] at hcall
            rcases hcase with ⟨rfl, rfl⟩ | ⟨hb, r, cur, T, h1, h4, h5, h6, h7⟩
            · have hys0 : ys = [] := List.eq_nil_of_length_eq_zero (by simp at hroom; simpa using hroom)
              subst hys0
              have hnews : news = [] := List.eq_nil_of_length_eq_zero (by rw [hyl]; simp)
              subst hnews
              have hcall' : (execOp a.eval o).run X.P w = .ok (.value (.slice s0 0 0)) w := by
                rw [hcall]
                cases s0 <;> simp [storeCells]
              cases hasb with
              | false => exact ⟨_, _, _, .inl hcall', .c _ _ (.own0 base s0 (setN_same N _ _)), step_nil hnr hf k⟩
              | true =>
                exact ⟨_, _, _, .inl hcall', .c _ _ (.own0 base s0 (setN_same _ _ _)), step_rename hnr hf (hb0 rfl) .nil (WExt.refl _ _) (by intro r hr; cases hr) ⟨hmx, .inl ⟨setN_same _ _ _, rfl⟩⟩⟩
            · subst hb
              subst h4
              simp only at hcall
              have hxl : (cur.toList.take (xs.length * k.size)).length = xs.length * k.size := by rw [← h7.1, flat_length]
              have hle : xs.length * k.size + ys.length * k.size ≤ cap0 * k.size := by rw [← Nat.add_mul]; exact Nat.mul_le_mul_right _ hroom
              have h1c : ∀ u ∈ news, u.oneCell' = true := repCL_one (repCL_d hyr)
              have hst := run_storeCells_at X.P r.blk (xs.length * k.size) T news 0 cur w h5 (by rw [hyl]; omega) h1c
              rw [add_blk, Nat.zero_add, hsz, hst] at hcall
              simp only [Nat.add_zero, Result.andThen_ok] at hcall
              have hwx := wext_setRow w r.blk cur ((cur.toList.take (xs.length * k.size) ++ news ++ cur.toList.drop (xs.length * k.size + news.length)).toArray) T h5
              have hstep := step_rename (N := N) (S := S) (w := w) hnr hf (hb0 rfl) (.live ⟨r.blk, cap0, xs.length + ys.length, k.size⟩) (hwx.mono (by rintro kk _ rfl; exact ⟨r, h1, rfl⟩)) (by intro r' hr; cases hr; exact .inr ⟨r, h1, rfl⟩)
                (x := .data k (xs ++ ys)) ?_
              · exact ⟨_, _, _, .inl hcall, .c _ _ (.own base ⟨r.blk, cap0, xs.length + ys.length, k.size⟩ (setN_same _ _ _)), hstep⟩
              · refine ⟨hmx, .inr ⟨_, _, T, setN_same _ _ _, rfl, by simp, by simpa using hroom, setRow_heap w r.blk cur _ T _ h5, ?_, ?_⟩⟩
                · simp only [List.size_toArray, List.length_append, List.length_take, List.length_drop, Array.length_toList]
                  omega
                · have hlen2 : (xs ++ ys).length * k.size = (cur.toList.take (xs.length * k.size) ++ news).length := by rw [List.length_append, List.length_append, hxl, hyl, Nat.add_mul]
                  have hN : NExt N (setN (setN N b0 .dead) base (.live ⟨r.blk, cap0, xs.length + ys.length, k.size⟩)) w := by
                    refine ⟨fun q => ?_, fun kk hk ⟨q, r', hq, he⟩ => ?_⟩
                    · by_cases e1 : q = base
                      · subst e1; exact .inl hf
                      · by_cases e2 : q = b0
                        · subst e2; exact .inr (.inr (by rw [setN_other _ _ e1, setN_same]))
                        · exact .inr (.inl (by rw [setN_other _ _ e1, setN_other _ _ e2]))
                    · by_cases e1 : q = base
                      · subst e1; rw [setN_same] at hq; cases hq; exact ⟨b0, r, h1, he⟩
                      · rw [setN_other _ _ e1] at hq
                        by_cases e2 : q = b0
                        · subst e2; rw [setN_same] at hq; cases hq
                        · rw [setN_other _ _ e2] at hq; exact ⟨q, r', hq, he⟩
                  have := (repL_append h7 hyr).keep (oo_write (S := S) h1 hwx) (hN.oo S)
                  rw [← List.flatMap_append] at this
                  rw [hlen2]
                  show RepL _ _ _ (List.take _ (cur.toList.take (xs.length * k.size) ++ news ++ cur.toList.drop (xs.length * k.size + news.length)))
                  rw [List.take_left]
                  exact this
        have ownCase : ∀ (b : Nat) (xs : List k.T), asSl h k (.own b) = some xs → (N b = .nil ∧ xs = []) ∨ ∃ r cur T, N b = .live r ∧ r.esz = k.size ∧ r.len = xs.length ∧ xs.length ≤ r.cap ∧ w.heap[r.blk]? = some (.cells cur T (0, 0)) ∧ r.cap * k.size ≤ cur.size ∧ RepL (OO N S) w (xs.flatMap k.enc) (cur.toList.take (xs.length * k.size)) := by
          intro b xs hx
          simp only [asSl] at hx
          split at hx
          · rename_i k' l hb
            split at hx
            · rename_i e
              subst e
              cases hx
              obtain ⟨_, hn | ⟨r, ws, T, h1, h2, h3, h4, h5, h6, h7⟩⟩ := hh b _ hb
              · exact .inl hn
              · exact .inr ⟨r, ws, T, h1, h2, h3, h4, h5, h6, h7⟩
            · cases hx
          · cases hx
        split
        · intro hob
          have hxv := (repC_lit hp).1
          have := main 0 [] false none 0 (by simp) hxv (by simpa using hob) (.inl ⟨rfl, rfl⟩)
          exact this
        · rename_i b0
          split
          · rename_i xs hxs
            intro hob
            rcases ownCase b0 xs hxs with ⟨hn, rfl⟩ | ⟨r, cur, T, h1, h2, h3, h4, h5, h6, h7⟩
            · generalize hxv : a.eval x = v at hp
              cases hp with
              | own0 _ ad _ => exact main b0 [] true ad 0 (by simp [hn]) hxv hob (.inl ⟨rfl, rfl⟩)
              | own _ r hr => rw [hn] at hr; cases hr
              | ownD _ _ hd _ => rw [hn] at hd; cases hd
            · generalize hxv : a.eval x = v at hp
              cases hp with
              | own0 _ ad hd => rw [h1] at hd; cases hd
              | ownD _ _ hd _ => rw [h1] at hd; cases hd
              | own _ r' hr' =>
                rw [h1] at hr'
                cases hr'
                rw [h3] at hxv
                exact main b0 xs true _ r.cap (by simp [h1]) hxv hob (.inr ⟨rfl, r, cur, T, h1, rfl, h5, h6, h7⟩)
          · trivial
        · rename_i b0 n
          split
          · rename_i xs hxs
            intro hob
            generalize hxv : a.eval x = v at hp
            rcases ownCase b0 xs hxs with ⟨hn, rfl⟩ | ⟨r, cur, T, h1, h2, h3, h4, h5, h6, h7⟩
            · cases hp with
              | view0 _ _ ad _ => exact main b0 [] true ad 0 (by simp [hn]) hxv (by simpa using hob) (.inl ⟨rfl, rfl⟩)
              | view _ _ _ c r hr => rw [hn] at hr; cases hr
              | viewD _ _ _ _ hd _ => rw [hn] at hd; cases hd
            · cases hp with
              | viewD _ _ _ _ hd _ => rw [h1] at hd; cases hd
              | view0 _ _ ad _ =>
                have := main b0 [] true ad 0 (by simp [h1]) hxv (by simpa using hob) (.inl ⟨rfl, rfl⟩)
                rw [List.take_zero]
                exact this
              | view _ _ _ c r' hr' hc1 hc2 hc3 =>
                rw [h1] at hr'
                cases hr'
                have hlen : (xs.take n).length = n := by simp; omega
                rw [Nat.zero_mul] at hxv
                refine main b0 (xs.take n) true _ c (by simp [h1]) (by rw [hlen]; exact hxv) (by rw [hlen]; exact hob) (.inr ⟨rfl, r, cur, T, h1, rfl, h5, ?_, ?_⟩)
                · have : c * k.size ≤ r.cap * k.size := Nat.mul_le_mul_right _ (by omega)
                  omega
                · have h8 := repL_take (n * k.size) h7
                  rw [← flat_take, List.take_take] at h8
                  have : min (n * k.size) (xs.length * k.size) = n * k.size := by
                    have : n * k.size ≤ xs.length * k.size := Nat.mul_le_mul_right _ (by omega)
                    omega
                  rw [this] at h8
                  rw [hlen]
                  exact h8
          · trivial
        · trivial
      · trivial
    · trivial
  · trivial

end
end Go.Abs
