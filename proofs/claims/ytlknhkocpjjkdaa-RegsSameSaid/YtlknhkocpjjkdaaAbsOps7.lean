/- Operations that make blocks; stores. -/
import Derived.Test.YtlknhkocpjjkdaaAbsOps6
set_option linter.all false
set_option linter.unusedVariables false
set_option linter.unusedSimpArgs false
namespace Go.Abs
section
variable {X : Ctx} {N : Names} {S : Nat → Prop} {w : World}

theorem zero_rep {t : Nat} (h : TyOk X.P t (X.ty t)) : ∃ j z, X.P.info? t = some j ∧ j.zero = some z ∧ j.size = (X.ty t).size ∧ z.cells.size = (X.ty t).size ∧ RepCL N S w ((X.ty t).zero.map .d) z.cells.toList := by
  obtain ⟨j, z, h1, h2, _, h3, h4, h5, h6, _⟩ := h.info
  refine ⟨j, z, h1, h3, h2, h6, ?_⟩
  rw [h4]
  refine ⟨by simp, fun i x v hx hv => ?_⟩
  simp only [List.map_map, List.getElem?_map, Option.map_eq_some_iff] at hx
  obtain ⟨u, hu, rfl⟩ := hx
  rw [hu] at hv
  cases hv
  exact .d _ _ (.lit _ (h5 _ (List.mem_of_getElem? hu)))

theorem alloc_sound (hX : XOk X) (hnr : NR N S w) {base : Nat} (hf : N base = .unused) {a : Act} {o : Oper} {t : Nat} (ho : o.op = .alloc t) (ht : (X.ty t).ok = true) :
    OpGoes X.P N S w (execOp a.eval o) (.c (.ptr base 0 0)) [(base, .vars ((X.ty t).zero.map .d))] := by
  obtain ⟨j, z, h1, h2, h3, h4, h5⟩ := zero_rep (N := N) (S := S) (w := w) (hX.ty t ht)
  obtain ⟨e1, e2⟩ := alloc_vars hnr hf t h5
  refine ⟨_, _, _, .inl ?_, e1, e2⟩
  unfold execOp; rw [ho]; refine run_v ?_
  simp [Instr.alloc, zeroValue, typeInfo, h1, h2, newVar, newRow]

theorem box_sound (hnr : NR N S w) {base : Nat} (hf : N base = .unused) {a : Act} {o : Oper} {t : Nat} {x : Operand} (ho : o.op = .box t x) {p : TV} (hp : RepT N S w p (a.eval x)) {cs : List CV} (hc : p.cells = some cs) :
    OpGoes X.P N S w (execOp a.eval o) (.c (.ptr base 0 0)) [(base, .vars cs)] := by
  obtain ⟨e1, e2⟩ := alloc_vars hnr hf t (cells_rep hp hc)
  refine ⟨_, _, _, .inl ?_, e1, e2⟩
  unfold execOp; rw [ho]; refine run_v ?_
  simp [Instr.box, newVar, newRow]

theorem repCL_splice {cs ys : List CV} {vs us : List Value} (h : RepCL N S w cs vs) (h' : RepCL N S w ys us) (o : Nat) : RepCL N S w (splice cs o ys) (vs.take o ++ us ++ vs.drop (o + us.length)) := by
  unfold splice
  rw [h'.1]
  exact repCL_append (repCL_append (repCL_take o h) h') (repCL_drop _ h)

/-- A cell of one block of its own is written to. -/
theorem step_write (hnr : NR N S w) {b : Nat} {r : RL} (hb : N b = .live r) {x : AB} {w' : World} (hw : WExt (fun k => k = r.blk) w w') (hx : BR N S w' b x) : Step N S w N w' [(b, x)] := by
  have ho : owned N r.blk := ⟨b, r, hb, rfl⟩
  refine ⟨hw.mono ?_, ⟨hnr.inj, fun b r h => ⟨Nat.lt_of_lt_of_le (hnr.lt b r h).1 hw.size, (hnr.lt b r h).2⟩, fun k hk => Nat.lt_of_lt_of_le (hnr.sm k hk) hw.size⟩, .refl _ _, fun _ _ => rfl, fun c y hy => ?_⟩
  · rintro k hk rfl
    exact ⟨b, r, dom_one.2 rfl, hb, rfl⟩
  · simp only [hlook] at hy
    cases h : Nat.beq b c with
    | false => rw [h] at hy; cases hy
    | true =>
      rw [h] at hy
      cases hy
      have := Nat.eq_of_beq_eq_true h
      subst this
      exact hx

theorem wext_setRow (w : World) (g : Nat) (cur cur' : Array Value) (T : TypeId) (hg : w.heap[g]? = some (.cells cur T (0, 0))) : WExt (fun k => k = g) w (w.setRow g cur') :=
  ⟨rfl, rfl, rfl, by simp, fun k _ hk => setRow_other w g k _ hk⟩

theorem oo_write {b : Nat} {r : RL} (hb : N b = .live r) {w' : World} (hw : WExt (fun k => k = r.blk) w w') : WExt (OO N S) w w' :=
  hw.mono fun k _ e => .inl ⟨b, r, hb, e.symm⟩

theorem run_storeVar_at {P : Program} (hX : XOk X) {t : Nat} (ht : (X.ty t).ok = true) (g off : Nat) (cur : Array Value) (T : TypeId) (hg : w.heap[g]? = some (.cells cur T (0, 0))) (v : Value) (hv : v.cells.size = (X.ty t).size)
    (hle : off + v.cells.size ≤ cur.size) (h1 : ∀ u ∈ v.cells.toList, u.oneCell' = true) :
    (storeVar t ⟨g, off, none⟩ v).run X.P w = .ok () (w.setRow g (cur.toList.take off ++ v.cells.toList ++ cur.toList.drop (off + v.cells.toList.length)).toArray) := by
  simp only [storeVar, Sem.run_bind, sizeOf_ok hX ht, Result.andThen_ok]
  rw [if_neg (by simp [hv])]
  have := run_storeCells_at X.P g off T v.cells.toList 0 cur w hg (by simpa using hle) h1
  simpa using this

theorem repCL_one {cs : List CV} {vs : List Value} (h : RepCL N S w cs vs) : ∀ u ∈ vs, u.oneCell' = true := by
  intro u hu
  obtain ⟨i, hi, rfl⟩ := List.getElem_of_mem hu
  exact (h.2 i (cs[i]'(by rw [h.1]; exact hi)) _ (List.getElem?_eq_getElem _) (List.getElem?_eq_getElem hi)).one

theorem repL_splice_elem {O : Nat → Prop} (k : EK) (l : List k.T) (vs : List Value) (h : RepL O w (l.flatMap k.enc) vs) (i : Nat) (hi : i < l.length) (x : k.T) {us : List Value} (hx : RepL O w (k.enc x) us) :
    RepL O w ((l.set i x).flatMap k.enc) (vs.take (i * k.size) ++ us ++ vs.drop (i * k.size + k.size)) := by
  have e : (l.set i x) = l.take i ++ [x] ++ l.drop (i + 1) := by
    rw [List.set_eq_take_append_cons_drop, if_pos hi]; simp
  rw [e]
  simp only [List.flatMap_append, List.flatMap_cons, List.flatMap_nil, List.append_nil]
  rw [flat_take, flat_drop, Nat.succ_mul]
  exact repL_append (repL_append (repL_take _ h) hx) (repL_drop _ h)

theorem splice_in {α : Type} (l : List α) (a n o : Nat) (ys : List α) (h1 : a + n ≤ l.length) (h2 : o + ys.length ≤ n) :
    l.take a ++ ((((l.drop a).take n).take o) ++ ys ++ ((l.drop a).take n).drop (o + ys.length)) ++ l.drop (a + n) = l.take (a + o) ++ ys ++ l.drop (a + o + ys.length) := by
  apply List.ext_getElem?
  intro i
  simp only [List.getElem?_append, List.length_append, List.length_take, List.length_drop, List.getElem?_take, List.getElem?_drop]
  have m1 : min a l.length = a := by omega
  have m2 : min (a + o) l.length = a + o := by omega
  have m3 : min n (l.length - a) = n := by omega
  have m4 : min o n = o := by omega
  simp only [m1, m2, m3, m4]
  by_cases c1 : i < a
  · simp [c1, show i < a + (o + ys.length + (n - (o + ys.length))) from by omega, show i < a + o + ys.length from by omega, show i < a + o from by omega]
  · by_cases c2 : i < a + o
    · simp [c1, c2, show i < a + (o + ys.length + (n - (o + ys.length))) from by omega, show i < a + o + ys.length from by omega, show i - a < o + ys.length from by omega, show i - a < o from by omega, show i - a < n from by omega, show a + (i - a) = i from by omega]
    · by_cases c3 : i < a + o + ys.length
      · simp [c1, c2, c3, show i < a + (o + ys.length + (n - (o + ys.length))) from by omega, show i - a < o + ys.length from by omega, show ¬ i - a < o from by omega, show i - a - o = i - (a + o) from by omega]
      · by_cases c4 : i < a + n
        · simp [c1, c3, show i < a + (o + ys.length + (n - (o + ys.length))) from by omega, show ¬ i - a < o + ys.length from by omega, show o + ys.length + (i - a - (o + ys.length)) < n from by omega,
            show a + (o + ys.length + (i - a - (o + ys.length))) = i from by omega, show a + o + ys.length + (i - (a + o + ys.length)) = i from by omega]
        · simp [c3, show ¬ i < a + (o + ys.length + (n - (o + ys.length))) from by omega, show a + n + (i - (a + (o + ys.length + (n - (o + ys.length))))) = i from by omega, show a + o + ys.length + (i - (a + o + ys.length)) = i from by omega]

theorem aStore_sound (hX : XOk X) (hnr : NR N S w) {h : Heap} (hh : HR N S w h) {a : Act} {o : Oper} {t : Nat} {x y : Operand} (ho : o.op = .store t x y) {p v : TV} (hp : RepT N S w p (a.eval x)) (hv : RepT N S w v (a.eval y)) :
    (aStore X h t p v).Sound X.P N S w (execOp a.eval o) := by
  have hexec : ∀ (ad : Addr) w', a.eval x = .pointer (some ad) → (storeVar t ad (a.eval y)).run X.P w = .ok () w' → (execOp a.eval o).run X.P w = .ok .skip w' := by
    intro ad w' hx h; unfold execOp; rw [ho]
    simp [Instr.storeAt, hx, Instr.sureAddr, h]
  have htup : ∀ N' w', RepT N' S w' (.tup []) undef := fun N' w' => .tup [] #[] rfl (by simp)
  unfold aStore
  split
  · rename_i b i off vs hcs
    have hcr := cells_rep hv hcs
    cases hc : ((X.ty t).ok && Nat.beq vs.length (X.ty t).size) with
    | false => trivial
    | true =>
      simp only [Bool.and_eq_true] at hc
      have hsz : (a.eval y).cells.size = (X.ty t).size := by rw [← Nat.eq_of_beq_eq_true hc.2, hcr.1]; simp
      simp only [cond_true]
      split
      · rename_i cs hb
        cases i with
        | succ i => trivial
        | zero =>
          simp only
          cases hle : Nat.ble (off + vs.length) cs.length with
          | false => trivial
          | true =>
            have hle := Nat.le_of_ble_eq_true hle
            obtain ⟨r, cur, T, h1, h2, h3⟩ := hh b _ hb
            cases hp with | c _ _ hp =>
            obtain ⟨r', hr', hpv⟩ := repC_ptr hp (by rw [h1]; simp)
            rw [h1] at hr'
            cases hr'
            rw [Nat.zero_mul, Nat.zero_add] at hpv
            have hlen : cs.length = cur.size := by simpa using h3.1
            have hst := run_storeVar_at (P := X.P) hX hc.1 r.blk off cur T h2 (a.eval y) hsz (by rw [← hlen]; have := hcr.1; simp at this; omega) (repCL_one hcr)
            have hwx := wext_setRow w r.blk cur ((cur.toList.take off ++ (a.eval y).cells.toList ++ cur.toList.drop (off + (a.eval y).cells.toList.length)).toArray) T h2
            refine ⟨undef, _, N, .inr ⟨hexec _ _ hpv hst, rfl⟩, htup _ _, step_write hnr h1 hwx ?_⟩
            refine ⟨r, _, T, h1, setRow_heap w r.blk cur _ T _ h2, ?_⟩
            have := repCL_splice h3 hcr off
            simpa using this.keep (oo_write h1 hwx) (.refl _ _)
      · rename_i k l hb
        split
        · rename_i z hfit
          cases hle : Nat.ble (off + vs.length) k.size with
          | false => trivial
          | true =>
            have hle := Nat.le_of_ble_eq_true hle
            intro hi
            obtain ⟨hm, ⟨hn, hl⟩ | ⟨r, cur, T, h1, h2, h3, h4, h5, h6, h7⟩⟩ := hh b _ hb
            · subst hl; simp at hi
            · cases hp with | c _ _ hp =>
              obtain ⟨r', hr', hpv⟩ := repC_ptr hp (by rw [h1]; simp)
              rw [h1] at hr'
              cases hr'
              rw [h2] at hpv
              have hvl := hcr.1
              have hvl' : (a.eval y).cells.size = vs.length := by simpa using hvl.symm
              have hle1 : i * k.size + k.size ≤ l.length * k.size := by rw [← Nat.succ_mul]; exact Nat.mul_le_mul_right _ hi
              have hle2 : l.length * k.size ≤ r.cap * k.size := Nat.mul_le_mul_right _ h4
              have hst := run_storeVar_at (P := X.P) hX hc.1 r.blk (i * k.size + off) cur T h5 (a.eval y) hsz (by omega) (repCL_one hcr)
              have hwx := wext_setRow w r.blk cur ((cur.toList.take (i * k.size + off) ++ (a.eval y).cells.toList ++ cur.toList.drop (i * k.size + off + (a.eval y).cells.toList.length)).toArray) T h5
              refine ⟨undef, _, N, .inr ⟨hexec _ _ hpv hst, rfl⟩, htup _ _, step_write hnr h1 hwx ?_⟩
              have hcl : cur.toList.length = cur.size := by simp
              refine ⟨by simpa using hm, .inr ⟨r, _, T, h1, h2, by simp [h3], by simpa using h4, setRow_heap w r.blk cur _ T _ h5, ?_, ?_⟩⟩
              · simp only [List.size_toArray, List.length_append, List.length_take, List.length_drop, hcl]
                simp only [Array.length_toList]
                omega
              · have hel := repL_elem k l _ h7 i hi
                have hnew := fit_rep hfit (repCL_splice (repCL_d hel) hcr off)
                have htl : (cur.toList.take (l.length * k.size)).length = l.length * k.size := by simp; omega
                have hall := repL_splice_elem k l _ h7 i hi z hnew
                have hsp := splice_in (cur.toList.take (l.length * k.size)) (i * k.size) k.size off (a.eval y).cells.toList (by rw [htl]; exact hle1) (by simp; omega)
                rw [hsp] at hall
                have hfin : (cur.toList.take (i * k.size + off) ++ (a.eval y).cells.toList ++ cur.toList.drop (i * k.size + off + (a.eval y).cells.toList.length)).take (l.length * k.size) =
                    (cur.toList.take (l.length * k.size)).take (i * k.size + off) ++ (a.eval y).cells.toList ++ (cur.toList.take (l.length * k.size)).drop (i * k.size + off + (a.eval y).cells.toList.length) := by
                  rw [List.take_append, List.take_append, List.take_take, List.take_take]
                  have c1 : min (l.length * k.size) (i * k.size + off) = i * k.size + off := by omega
                  have c2 : min (i * k.size + off) (l.length * k.size) = i * k.size + off := by omega
                  have c3 : (cur.toList.take (i * k.size + off)).length = i * k.size + off := by simp; omega
                  rw [c1, c2, c3]
                  rw [List.take_of_length_le (l := (a.eval y).cells.toList) (by simp; omega)]
                  congr 1
                  rw [List.drop_take]
                  congr 1
                  simp only [List.length_append, c3]
                have hfin2 := hall.keep (oo_write (S := S) h1 hwx) ((NExt.refl N w).oo S)
                rw [← hfin] at hfin2
                simpa using hfin2
        · trivial
      · trivial
  · trivial

end
end Go.Abs
