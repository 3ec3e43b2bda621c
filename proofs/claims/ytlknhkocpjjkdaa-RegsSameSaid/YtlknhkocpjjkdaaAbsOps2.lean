/- Operations that read memory, and those on addresses, slices and functions. -/
import Derived.Test.YtlknhkocpjjkdaaAbsOps1
set_option linter.all false
set_option linter.unusedVariables false
set_option linter.unusedSimpArgs false
namespace Go.Abs

theorem EK.enc_length (k : EK) (x : k.T) : (k.enc x).length = k.size := by cases k <;> rfl

theorem flat_length (k : EK) (l : List k.T) : (l.flatMap k.enc).length = l.length * k.size := by
  induction l with
  | nil => simp
  | cons x r ih => simp only [List.flatMap_cons, List.length_append, EK.enc_length, ih, List.length_cons]; rw [Nat.add_mul]; omega

theorem flat_get (k : EK) : ∀ (l : List k.T) (i j : Nat), i < l.length → j < k.size → (l.flatMap k.enc)[i * k.size + j]? = (k.enc (l.getD i default))[j]?
  | [], i, j, h, _ => by simp at h
  | x :: r, 0, j, _, hj => by
    simp only [List.flatMap_cons, Nat.zero_mul, Nat.zero_add, List.getD_cons_zero]
    rw [List.getElem?_append_left (by rw [EK.enc_length]; exact hj)]
  | x :: r, i + 1, j, h, hj => by
    have ih := flat_get k r i j (by simpa using h) hj
    simp only [List.flatMap_cons, List.getD_cons_succ]
    rw [List.getElem?_append_right (by rw [EK.enc_length, Nat.add_mul]; omega), EK.enc_length, ← ih]
    congr 1
    rw [Nat.add_mul]
    omega

section
variable {X : Ctx} {N : Names} {S : Nat → Prop} {w : World}

theorem cells_rep {tv : TV} {v : Value} {cs : List CV} (h : RepT N S w tv v) (hc : tv.cells = some cs) : RepCL N S w cs v.cells.toList := by
  cases h with
  | c x v h =>
    simp only [TV.cells, Option.some.injEq] at hc
    subst hc
    have h1 := h.one
    have : v.cells = #[v] := by cases v <;> first | rfl | simp [Value.oneCell'] at h1
    rw [this]
    refine ⟨rfl, fun i x' v' hx hv => ?_⟩
    cases i with
    | zero => simp at hx hv; subst hx hv; exact h
    | succ i => simp at hx
  | agg xs vs h => simp only [TV.cells, Option.some.injEq] at hc; subst hc; exact h
  | tup xs vs hl h => simp [TV.cells] at hc
  | any v => simp [TV.cells] at hc

theorem repCL_drop {xs : List CV} {vs : List Value} (n : Nat) (h : RepCL N S w xs vs) : RepCL N S w (xs.drop n) (vs.drop n) :=
  ⟨by simp [h.1], fun i x v hx hv => h.2 (n + i) x v (by simpa using hx) (by simpa using hv)⟩

theorem repCL_take {xs : List CV} {vs : List Value} (n : Nat) (h : RepCL N S w xs vs) : RepCL N S w (xs.take n) (vs.take n) := by
  refine ⟨by simp [h.1], fun i x v hx hv => ?_⟩
  rw [List.getElem?_take] at hx hv
  split at hx
  · rename_i hi
    rw [if_pos hi] at hv
    exact h.2 i x v hx hv
  · cases hx

theorem repCL_append {xs ys : List CV} {vs us : List Value} (h : RepCL N S w xs vs) (h' : RepCL N S w ys us) : RepCL N S w (xs ++ ys) (vs ++ us) := by
  refine ⟨by simp [h.1, h'.1], fun i x v hx hv => ?_⟩
  rcases Nat.lt_or_ge i xs.length with hi | hi
  · rw [List.getElem?_append_left hi] at hx
    rw [List.getElem?_append_left (h.1 ▸ hi)] at hv
    exact h.2 i x v hx hv
  · rw [List.getElem?_append_right hi] at hx
    rw [List.getElem?_append_right (h.1 ▸ hi)] at hv
    exact h'.2 _ x v hx (h.1 ▸ hv)

theorem repCL_d {xs : List DV} {vs : List Value} (h : RepL (OO N S) w xs vs) : RepCL N S w (xs.map .d) vs := by
  refine ⟨by simp [h.1], fun i x v hx hv => ?_⟩
  simp only [List.getElem?_map, Option.map_eq_some_iff] at hx
  obtain ⟨y, hy, rfl⟩ := hx
  exact .d _ _ (h.2 i y v hy hv)

theorem repL_drop {O : Nat → Prop} {xs : List DV} {vs : List Value} (n : Nat) (h : RepL O w xs vs) : RepL O w (xs.drop n) (vs.drop n) :=
  ⟨by simp [h.1], fun i x v hx hv => h.2 (n + i) x v (by simpa using hx) (by simpa using hv)⟩

theorem repL_take {O : Nat → Prop} {xs : List DV} {vs : List Value} (n : Nat) (h : RepL O w xs vs) : RepL O w (xs.take n) (vs.take n) := by
  refine ⟨by simp [h.1], fun i x v hx hv => ?_⟩
  rw [List.getElem?_take] at hx hv
  split at hx
  · rename_i hi
    rw [if_pos hi] at hv
    exact h.2 i x v hx hv
  · cases hx

theorem repL_append {O : Nat → Prop} {xs ys : List DV} {vs us : List Value} (h : RepL O w xs vs) (h' : RepL O w ys us) : RepL O w (xs ++ ys) (vs ++ us) := by
  refine ⟨by simp [h.1, h'.1], fun i x v hx hv => ?_⟩
  rcases Nat.lt_or_ge i xs.length with hi | hi
  · rw [List.getElem?_append_left hi] at hx
    rw [List.getElem?_append_left (h.1 ▸ hi)] at hv
    exact h.2 i x v hx hv
  · rw [List.getElem?_append_right hi] at hx
    rw [List.getElem?_append_right (h.1 ▸ hi)] at hv
    exact h'.2 _ x v hx (h.1 ▸ hv)

/-- The element of cells. -/
theorem repL_elem {O : Nat → Prop} (k : EK) (l : List k.T) (vs : List Value) (h : RepL O w (l.flatMap k.enc) vs) (i : Nat) (hi : i < l.length) : RepL O w (k.enc (l.getD i default)) ((vs.drop (i * k.size)).take k.size) := by
  have hlen : vs.length = l.length * k.size := by rw [← h.1, flat_length]
  have hle : i * k.size + k.size ≤ l.length * k.size := by rw [← Nat.succ_mul]; exact Nat.mul_le_mul_right _ hi
  refine ⟨by simp [EK.enc_length]; omega, fun j x v hx hv => ?_⟩
  have hj : j < k.size := by
    rcases Nat.lt_or_ge j k.size with h' | h'
    · exact h'
    · rw [List.getElem?_eq_none (by rw [EK.enc_length]; exact h')] at hx; cases hx
  rw [List.getElem?_take, if_pos hj, List.getElem?_drop] at hv
  exact h.2 _ x v (by rw [flat_get k l i j hi hj]; exact hx) hv

/-- What a value of a type is made of, out of its cells. -/
def ofVals (agg : Bool) (vs : List Value) : Value :=
  match agg, vs with
  | true, vs => .agg vs.toArray
  | false, v :: _ => v
  | false, [] => undef

theorem rep_ofCells {agg : Bool} {cs : List CV} {vs : List Value} (h : RepCL N S w cs vs) : RepT N S w (ofCells agg cs) (ofVals agg vs) := by
  cases agg with
  | true => exact .agg _ _ (by simpa using h)
  | false =>
    match cs, vs, h with
    | [x], [v], h => exact .c _ _ (h.2 0 x v rfl rfl)
    | [], _, _ => exact .any _
    | _ :: _ :: _, _, _ => exact .any _
    | [x], [], h => exact absurd h.1 (by simp)
    | [x], _ :: _ :: _, h => exact absurd h.1 (by simp)

theorem cellsAt_of_row {g : Nat} {cur : Array Value} {T : TypeId} {fr : Nat × Nat} (hg : w.heap[g]? = some (.cells cur T fr)) (o : Nat) (vs : List Value)
    (h : ∀ j v, vs[j]? = some v → cur[o + j]? = some v) : CellsAt w ⟨g, o, none⟩ vs := fun j v hv => by
  simp only [World.cell?, hg]
  simpa using h j v hv

theorem run_loadVar {hX : XOk X} {t : Nat} (ht : (X.ty t).ok = true) (a : Addr) (ha : a.spot = none) (vs : List Value) (hl : vs.length = (X.ty t).size) (h : CellsAt w a vs) (hsz : (X.ty t).isAgg = false → (X.ty t).size = 1) :
    (loadVar t a).run X.P w = .ok (ofVals (X.ty t).isAgg vs) w := by
  have hadd : ∀ j, a.add j = ⟨a.block, a.off + j, none⟩ := by
    intro j
    cases a with | mk b o s => simp at ha; subst ha; exact Addr.add_lit b o j
  simp only [loadVar, Sem.run_bind, isAgg_run hX ht, Result.andThen_ok]
  cases hag : (X.ty t).isAgg with
  | true =>
    simp only [if_true, Sem.run_bind, sizeOf_ok hX ht, Result.andThen_ok]
    rw [← hl, run_loadCells_list w a vs (fun j v hv => by rw [hadd]; exact h j v hv)]
    rfl
  | false =>
    have h1 := hsz hag
    match vs, hl with
    | [v], _ =>
      have := h 0 v rfl
      have e : w.cell? a = some v := by rw [← this]; cases a with | mk b o s => simp at ha; subst ha; rfl
      simp [run_load, e, ofVals]
    | [], hl => rw [h1] at hl; cases hl
    | _ :: _ :: _, hl => rw [h1] at hl; simp at hl

theorem size_one {X : Ctx} (hX : XOk X) {t : Nat} (ht : (X.ty t).ok = true) (ha : (X.ty t).isAgg = false) : (X.ty t).size = 1 := by
  obtain ⟨j, z, _, _, _, _, _, _, h1, _, h3⟩ := (hX.ty t ht).info
  have := h3 ha
  rw [← h1]
  cases z <;> first | rfl | (simp [Value.oneCell'] at this)

/-- The cells at a pointer. -/
theorem readAt_rep {h : Heap} {sz : Nat} {p : CV} {v : Value} {cs : List CV} (hh : HR N S w h) (hp : RepC N S w p v) (hr : readAt h sz p = some cs) (hl : cs.length = sz)
    (hob : ∀ q, readOb h p = some q → q) : ∃ a vs, v = .pointer (some a) ∧ a.spot = none ∧ CellsAt w a vs ∧ RepCL N S w cs vs := by
  cases p with
  | ptr b i off =>
    simp only [readAt] at hr
    cases hb : hlook h b with
    | none => rw [hb] at hr; cases hr
    | some x =>
      rw [hb] at hr
      have hbr := hh b x hb
      cases x with
      | vars us =>
        cases i with
        | succ i => simp at hr
        | zero =>
          simp only [Option.some.injEq] at hr
          subst hr
          obtain ⟨r, ws, T, h1, h2, h3⟩ := hbr
          cases hp with
          | ptrD _ _ _ _ hd _ => rw [h1] at hd; cases hd
          | ptr _ _ _ r' h' =>
            rw [h1] at h'
            cases h'
            refine ⟨⟨r.blk, 0 * r.esz + off, none⟩, ((ws.toList.drop off).take sz), rfl, rfl, ?_, repCL_take sz (repCL_drop off h3)⟩
            rw [Nat.zero_mul, Nat.zero_add]
            refine cellsAt_of_row h2 off _ fun j v hv => ?_
            rw [List.getElem?_take] at hv
            split at hv
            · simpa using hv
            · cases hv
      | data k l =>
        simp only [Option.some.injEq] at hr
        subst hr
        have hi : i < l.length := hob _ (by simp [readOb, hb])
        obtain ⟨hm, hbr⟩ := hbr
        rcases hbr with ⟨h1, h2⟩ | ⟨r, ws, T, h1, h2, h3, h4, h5, h6, h7⟩
        · subst h2; simp at hi
        · cases hp with
          | ptrD _ _ _ _ hd _ => rw [h1] at hd; cases hd
          | ptr _ _ _ r' h' =>
            rw [h1] at h'
            cases h'
            have he := repL_elem k l _ h7 i hi
            have hle : i * k.size + k.size ≤ l.length * k.size := by rw [← Nat.succ_mul]; exact Nat.mul_le_mul_right _ hi
            refine ⟨⟨r.blk, i * r.esz + off, none⟩, (((((ws.toList.take (l.length * k.size)).drop (i * k.size)).take k.size).drop off).take sz), rfl, rfl, ?_, ?_⟩
            · rw [h2]
              refine cellsAt_of_row h5 _ _ fun j v hv => ?_
              rw [List.getElem?_take] at hv
              split at hv
              · rw [List.getElem?_drop, List.getElem?_take] at hv
                split at hv
                · rw [List.getElem?_drop, List.getElem?_take] at hv
                  split at hv
                  · rw [Nat.add_assoc]; simpa using hv
                  · cases hv
                · cases hv
              · cases hv
            · exact repCL_d (repL_take sz (repL_drop off he))
      | dead => cases hr
  | d x =>
    cases x with
    | rp xs =>
      simp only [readAt, Option.some.injEq] at hr
      subst hr
      cases hp with | d _ _ hp =>
      cases hp with | rp _ a vs ho hs hl' hr' hw =>
      exact ⟨a, vs.take sz, rfl, hs, fun j v hv => hw j v (by rw [List.getElem?_take] at hv; split at hv; exact hv; cases hv), repCL_d (repL_take sz ⟨hl', hr'⟩)⟩
    | _ => cases hr
  | _ => cases hr

theorem aLoad_sound (hX : XOk X) (hnr : NR N S w) {h : Heap} (hh : HR N S w h) {a : Act} {o : Oper} {t : Nat} {x : Operand} (ho : o.op = .load t x) {p : TV} (hp : RepT N S w p (a.eval x)) :
    (aLoad X h t p).Sound X.P N S w (execOp a.eval o) := by
  have hexec : (execOp a.eval o).run X.P w = ((Instr.loadAt t (a.eval x)).run X.P w).andThen fun v w' => .ok (.value v) w' := by
    unfold execOp; rw [ho]; simp
  unfold aLoad
  split
  · rename_i p
    split
    · rename_i cs hr
      cases hc : ((X.ty t).ok && Nat.beq cs.length (X.ty t).size) with
      | false => trivial
      | true =>
        simp only [Bool.and_eq_true] at hc
        have hl := Nat.eq_of_beq_eq_true hc.2
        simp only [cond_true]
        have hp' : RepC N S w p (a.eval x) := by cases hp with | c _ _ h => exact h
        have main : (∀ q, readOb h p = some q → q) → OpGoes X.P N S w (execOp a.eval o) (ofCells (X.ty t).isAgg cs) [] := by
          intro hob
          obtain ⟨ad, vs, hv, hs, hca, hrep⟩ := readAt_rep hh hp' hr hl hob
          refine goes_pure hnr ?_ (rep_ofCells hrep)
          rw [hexec, hv]
          simp only [Instr.loadAt, Instr.sureAddr, Sem.run_bind, Sem.run_pure, Result.andThen_ok]
          rw [run_loadVar (hX := hX) hc.1 ad hs vs (by rw [← hrep.1]; exact hl) hca (size_one hX hc.1)]
          rfl
        cases hro : readOb h p with
        | none => exact main (by rw [hro]; simp)
        | some q => exact fun hq => main (by rw [hro]; intro q' e; cases e; exact hq)
    · trivial
  · trivial

end
end Go.Abs
