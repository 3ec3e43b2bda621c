/- Slicing. -/
import Derived.Test.YtlknhkocpjjkdaaAbsOps4
set_option linter.all false
set_option linter.unusedVariables false
set_option linter.unusedSimpArgs false
namespace Go.Abs
section
variable {X : Ctx} {N : Names} {S : Nat → Prop} {w : World}

def setN (N : Names) (b : Nat) (s : NS) : Names := fun c => if c = b then s else N c

theorem setN_same (N : Names) (b : Nat) (s : NS) : setN N b s b = s := by simp [setN]
theorem setN_other (N : Names) {b c : Nat} (s : NS) (h : c ≠ b) : setN N b s c = N c := by simp [setN, h]

theorem dom_one {b c : Nat} {x : AB} : dom [(b, x)] c ↔ c = b := by
  simp only [dom, hlook]
  cases h : Nat.beq b c with
  | true => have := Nat.eq_of_beq_eq_true h; simp [this]
  | false => have : c ≠ b := by rintro rfl; simp at h
             simp [this]

/-- A name for an empty slice without a block. -/
theorem step_nil (hnr : NR N S w) {base : Nat} (hf : N base = .unused) (k : EK) : Step N S w (setN N base .nil) w [(base, .data k [])] := by
  have hl : ∀ b r, setN N base .nil b = .live r → N b = .live r := by
    intro b r h
    by_cases e : b = base
    · subst e; rw [setN_same] at h; cases h
    · rwa [setN_other N _ e] at h
  refine ⟨.refl _ _, ⟨fun b b' r r' h h' => hnr.inj b b' r r' (hl b r h) (hl b' r' h'), fun b r h => hnr.lt b r (hl b r h), hnr.sm⟩, ⟨fun b => ?_, fun k _ ⟨b, r, h, he⟩ => ⟨b, r, hl b r h, he⟩⟩, fun b hb => ?_, fun b x hx => ?_⟩
  · by_cases e : b = base
    · subst e; exact .inl hf
    · exact .inr (.inl (setN_other N _ e))
  · exact setN_other N _ (fun e => hb (dom_one.2 e))
  · simp only [hlook] at hx
    cases h : Nat.beq base b with
    | false => rw [h] at hx; cases hx
    | true =>
      rw [h] at hx
      cases hx
      have := Nat.eq_of_beq_eq_true h
      subst this
      exact ⟨by simp [maxN], .inl ⟨setN_same N _ _, rfl⟩⟩

theorem need_sound {P : Program} {s : Sem Next} {q : Option Prop} {tv : TV} {δ : Heap} (h : (∀ p, q = some p → p) → OpGoes P N S w s tv δ) : (ER.need q (.ok tv δ)).Sound P N S w s := by
  cases q with
  | none => exact h (by simp)
  | some p => exact fun hp => h (by intro p' e; cases e; exact hp)

theorem cutOb_ok {n cap : Nat} (hc : n ≤ cap) {lo hi mx : Option Int} (h : ∀ q, cutOb n lo hi mx = some q → q) :
    0 ≤ lo.getD 0 ∧ lo.getD 0 ≤ hi.getD n ∧ hi.getD n ≤ n ∧ hi.getD n ≤ mx.getD cap ∧ mx.getD cap ≤ cap ∧ (hi = none → mx = none) := by
  cases lo <;> cases hi <;> cases mx
  all_goals first
    | (have h' := h _ rfl; simp only [Option.getD_none, Option.getD_some, reduceCtorEq, forall_const, false_implies, and_true]; first | omega | exact h'.elim)
    | (simp only [Option.getD_none, forall_const, and_true]; omega)

theorem run_slice_slc (hX : XOk X) {t e : Nat} (hk : (X.ty t).k = .slc e) (he : (X.ty e).ok = true) {a : Act} {base : Option Addr} {len cap : Nat} {lo hi mx : Option Operand} {l h m : Option Int} (h1 : intO a lo l) (h2 : intO a hi h) (h3 : intO a mx m)
    (q0 : 0 ≤ l.getD 0) (q1 : l.getD 0 ≤ h.getD len) (q2 : h.getD len ≤ m.getD cap) (q3 : m.getD cap ≤ cap) (q4 : h = none → m = none) :
    (Instr.sliceAt t (.slice base len cap) (lo.map a.eval) (hi.map a.eval) (mx.map a.eval)).run X.P w =
      .ok (.slice (if (m.getD cap).toNat = (l.getD 0).toNat then base else base.map (·.add ((l.getD 0).toNat * (X.ty e).size))) ((h.getD len).toNat - (l.getD 0).toNat) ((m.getD cap).toNat - (l.getD 0).toNat)) w := by
  have hb := run_bounds (P := X.P) w h1 h2 h3 q0 q1 q2 q3 q4
  simp only [Instr.sliceAt, Sem.run_bind, run_underlying (und_slc hX hk), Result.andThen_ok, Instr.slice, hb, sizeOf_ok hX he, Sem.run_pure]

theorem cut_drop {α : Type} (l : List α) (lo hi : Option Int) (h0 : 0 ≤ lo.getD 0) (h1 : lo.getD 0 ≤ hi.getD l.length) (h2 : hi.getD l.length ≤ l.length) :
    cut l lo hi = (l.drop (lo.getD 0).toNat).take ((hi.getD l.length).toNat - (lo.getD 0).toNat) := by
  cases lo <;> cases hi <;> simp only [cut, Option.getD_none, Option.getD_some] at *
  · simp
  · simp
  · rw [List.take_of_length_le (by simp)]
  · rw [List.drop_take]

theorem flat_drop (k : EK) : ∀ (l : List k.T) (n : Nat), (l.drop n).flatMap k.enc = (l.flatMap k.enc).drop (n * k.size)
  | [], n => by simp
  | x :: r, 0 => by simp
  | x :: r, n + 1 => by
    have e : (n + 1) * k.size = (k.enc x).length + n * k.size := by rw [EK.enc_length, Nat.add_mul]; omega
    have e1 : (k.enc x).drop ((k.enc x).length + n * k.size) = [] := List.drop_eq_nil_of_le (by omega)
    rw [List.drop_succ_cons, flat_drop k r n, List.flatMap_cons, e, List.drop_append, e1, List.nil_append, Nat.add_sub_cancel_left]

theorem flat_take (k : EK) : ∀ (l : List k.T) (n : Nat), (l.take n).flatMap k.enc = (l.flatMap k.enc).take (n * k.size)
  | [], n => by simp
  | x :: r, 0 => by simp
  | x :: r, n + 1 => by
    have e : (n + 1) * k.size = (k.enc x).length + n * k.size := by rw [EK.enc_length, Nat.add_mul]; omega
    have e1 : (k.enc x).take ((k.enc x).length + n * k.size) = k.enc x := List.take_of_length_le (by omega)
    rw [List.take_succ_cons, List.flatMap_cons, flat_take k r n, List.flatMap_cons, e, List.take_append, e1, Nat.add_sub_cancel_left]

theorem aSlice_sl (hX : XOk X) {t e : Nat} (hk : (X.ty t).k = .slc e) (he : (X.ty e).ok = true) {k : EK} (hks : k.size = (X.ty e).size) {l : List k.T} {v : Value} (hv : Rep (OO N S) w (.sl k l) v) {a : Act} {lo hi mx : Option Operand} {li hiI mi : Option Int}
    (h1 : intO a lo li) (h2 : intO a hi hiI) (h3 : intO a mx mi) (hob : ∀ q, cutOb l.length li hiI mi = some q → q) :
    ∃ u, (Instr.sliceAt t v (lo.map a.eval) (hi.map a.eval) (mx.map a.eval)).run X.P w = .ok u w ∧ Rep (OO N S) w (.sl k (cut l li hiI)) u := by
  cases hv with
  | slnil _ ad c =>
    obtain ⟨q0, q1, qn, q2, q3, q4⟩ := cutOb_ok (n := 0) (Nat.zero_le c) hob
    refine ⟨_, run_slice_slc hX hk he h1 h2 h3 q0 q1 q2 q3 q4, ?_⟩
    have : cut ([] : List k.T) li hiI = [] := by cases li <;> cases hiI <;> simp [cut]
    rw [this]
    have e0 : (hiI.getD ((0 : Nat) : Int)).toNat - (li.getD 0).toNat = 0 := by omega
    rw [e0]
    exact .slnil k _ _
  | sl _ _ ad c vs hoo hs hcc hm hl hr hw =>
    obtain ⟨q0, q1, qn, q2, q3, q4⟩ := cutOb_ok hcc hob
    refine ⟨_, run_slice_slc hX hk he h1 h2 h3 q0 q1 q2 q3 q4, ?_⟩
    have hcut := cut_drop l li hiI q0 q1 qn
    rw [hcut]
    by_cases hz : (hiI.getD (l.length : Int)).toNat - (li.getD 0).toNat = 0
    · rw [hz, List.take_zero]
      exact .slnil k _ _
    · have hml : ¬ (mi.getD (c : Int)).toNat = (li.getD 0).toNat := by omega
      rw [if_neg hml, Option.map_some, add_spot hs, ← hks]
      generalize hA : (li.getD 0).toNat = A at *
      generalize hB : (hiI.getD (l.length : Int)).toNat - A = B at *
      have hlen : ((l.drop A).take B).length = B := by simp; omega
      have hrep : RepL (OO N S) w (((l.drop A).take B).flatMap k.enc) ((vs.drop (A * k.size)).take (B * k.size)) := by
        rw [flat_take, flat_drop]
        exact repL_take _ (repL_drop _ ⟨hl, hr⟩)
      have := Rep.sl (O := OO N S) (w := w) k ((l.drop A).take B) ⟨ad.block, ad.off + A * k.size, none⟩ ((mi.getD (c : Int)).toNat - A) _ (fun hne => hoo (by intro e; subst e; simp at hne)) rfl (by rw [hlen]; omega) (by rw [hlen]; omega) hrep.1 hrep.2
        (fun j v hv => by
          rw [List.getElem?_take] at hv
          split at hv
          · have := hw (A * k.size + j) v (by simpa using hv)
            rw [← Nat.add_assoc] at this
            exact this
          · cases hv)
      rw [hlen] at this
      exact this

end
end Go.Abs
