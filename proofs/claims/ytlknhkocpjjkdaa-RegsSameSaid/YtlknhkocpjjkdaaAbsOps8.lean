/- append. -/
import Derived.Test.YtlknhkocpjjkdaaAbsOps7
set_option linter.all false
set_option linter.unusedVariables false
set_option linter.unusedSimpArgs false
namespace Go.Abs
section
variable {X : Ctx} {N : Names} {S : Nat → Prop} {w : World}

/-- A slice whose elements are read. -/
structure Src (N : Names) (S : Nat → Prop) (w : World) (k : EK) (ys : List k.T) (v : Value) : Prop where
  ex : ∃ b c news, v = .slice b ys.length c ∧ RepL (OO N S) w (ys.flatMap k.enc) news ∧ (∀ ad, b = some ad → news ≠ [] → ad.spot = none ∧ CellsAt w ad news) ∧ (b = none → news = [])
  small : ys.length ≤ maxN

theorem EK.pos (k : EK) : 0 < k.size := by cases k <;> simp [EK.size]

theorem src_nil (k : EK) (a : Option Addr) (c : Nat) : Src N S w k [] (.slice a 0 c) :=
  ⟨⟨a, c, [], rfl, repL_nil, fun _ _ h => absurd rfl h, fun _ => rfl⟩, Nat.zero_le _⟩

theorem asSl_src {h : Heap} (hh : HR N S w h) {k : EK} {y : CV} {ys : List k.T} {v : Value} (he : asSl h k y = some ys) (hr : RepC N S w y v) : Src N S w k ys v := by
  unfold asSl at he
  split at he
  · cases he
    have := (repC_lit hr).1
    subst this
    exact src_nil k none 0
  · rename_i k' l
    split at he
    · rename_i e
      subst e
      cases he
      cases repC_d hr with
      | slnil _ a c => exact src_nil _ a c
      | sl _ _ ad c vs hoo hs hcc hm hl hr' hw => exact ⟨⟨some ad, c, vs, rfl, ⟨hl, hr'⟩, fun ad' e _ => by cases e; exact ⟨hs, hw⟩, fun e => by cases e⟩, hm⟩
    · cases he
  · rename_i b
    split at he
    · rename_i k' l hb
      split at he
      · rename_i e
        subst e
        cases he
        obtain ⟨hm, ⟨hn, hl⟩ | ⟨r, ws, T, h1, h2, h3, h4, h5, h6, h7⟩⟩ := hh b _ hb
        · cases hr with
          | own0 _ a _ => subst hl; exact src_nil _ a 0
          | own _ r hr => rw [hn] at hr; cases hr
          | ownD _ _ hd _ => rw [hn] at hd; cases hd
        · cases hr with
          | own0 _ a hd => rw [h1] at hd; cases hd
          | ownD _ _ hd _ => rw [h1] at hd; cases hd
          | own _ r' hr' =>
            rw [h1] at hr'
            cases hr'
            rw [h3]
            refine ⟨⟨_, _, _, rfl, h7, fun ad e _ => ?_, fun e => by cases e⟩, hm⟩
            cases e
            exact ⟨rfl, cellsAt_of_row h5 0 _ fun j v hv => by rw [List.getElem?_take] at hv; split at hv; simpa using hv; cases hv⟩
      · cases he
    · cases he
  · rename_i b o n
    split at he
    · rename_i k' l hb
      split at he
      · rename_i e
        subst e
        cases he
        obtain ⟨hm, ⟨hn, hl⟩ | ⟨r, ws, T, h1, h2, h3, h4, h5, h6, h7⟩⟩ := hh b _ hb
        · subst hl
          cases hr with
          | view0 _ _ a _ => rw [List.take_zero]; exact src_nil _ a 0
          | view _ _ _ c r hr => rw [hn] at hr; cases hr
          | viewD _ _ _ _ hd _ => rw [hn] at hd; cases hd
        · cases hr with
          | view0 _ _ a _ => rw [List.take_zero]; exact src_nil _ a 0
          | viewD _ _ _ _ hd _ => rw [h1] at hd; cases hd
          | view _ _ _ c r' hr' hc1 hc2 hc3 =>
            rw [h1] at hr'
            cases hr'
            have hlen : ((l.drop o).take n).length = n := by simp; omega
            refine ⟨⟨some ⟨r.blk, o * r.esz, none⟩, c, ((ws.toList.take (l.length * k'.size)).drop (o * k'.size)).take (n * k'.size), by rw [hlen], ?_, fun ad e _ => ?_, fun e => by cases e⟩, by rw [hlen]; omega⟩
            · rw [flat_take, flat_drop]
              exact repL_take _ (repL_drop _ h7)
            · cases e
              refine ⟨rfl, ?_⟩
              rw [h2]
              refine cellsAt_of_row h5 _ _ fun j v hv => ?_
              rw [List.getElem?_take] at hv
              split at hv
              · rw [List.getElem?_drop, List.getElem?_take] at hv
                split at hv
                · simpa using hv
                · cases hv
              · cases hv
      · cases he
    · cases he
  · cases he

theorem src_run {P : Program} {k : EK} {ys : List k.T} {v : Value} (hs : Src N S w k ys v) : ∃ b c news, v = .slice b ys.length c ∧ RepL (OO N S) w (ys.flatMap k.enc) news ∧ news.length = ys.length * k.size ∧
    ∀ n, n ≤ ys.length → ∀ w', (∀ a u, w.cell? a = some u → w'.cell? a = some u) → (Builtin.firstCells k.size n v).run P w' = .ok (news.take (n * k.size)).toArray w' := by
  obtain ⟨b, c, news, rfl, hr, hc, hn⟩ := hs.ex
  have hlen : news.length = ys.length * k.size := by rw [← hr.1, flat_length]
  refine ⟨b, c, news, rfl, hr, hlen, fun n hle w' hw => ?_⟩
  have hle2 : n * k.size ≤ news.length := by rw [hlen]; exact Nat.mul_le_mul_right _ hle
  have htl : (news.take (n * k.size)).length = n * k.size := by simp; omega
  cases b with
  | none =>
    have := hn rfl
    subst this
    simp [run_firstCells_none]
  | some ad =>
    by_cases he : news = []
    · subst he
      have h0 : n * k.size = 0 := by simpa using hle2
      have := run_firstCells_some (P := P) w' k.size n ad ys.length c [] (by simp [h0]) (by intro j v hv; simp at hv)
      simpa [h0] using this
    · obtain ⟨hs, hca⟩ := hc ad rfl he
      refine run_firstCells_some (P := P) w' k.size n ad ys.length c _ htl fun j u hu => ?_
      rw [add_spot hs]
      refine hw _ _ (hca j u ?_)
      rw [List.getElem?_take] at hu
      split at hu
      · exact hu
      · cases hu

/-- One name gives way to another. -/
theorem step_rename (hnr : NR N S w) {base b : Nat} (hf : N base = .unused) (hb : N b ≠ .unused) (s : NS) {w' : World} (hw : WExt (fun k => ∃ rb, N b = .live rb ∧ k = rb.blk) w w')
    (hblk : ∀ r, s = .live r → (r.blk = w.heap.size ∧ w.heap.size < w'.heap.size) ∨ (∃ rb, N b = .live rb ∧ r.blk = rb.blk)) {x : AB} (hx : BR (setN (setN N b .dead) base s) S w' base x) :
    Step N S w (setN (setN N b .dead) base s) w' [(base, x), (b, .dead)] := by
  have hne : b ≠ base := fun e => hb (e ▸ hf)
  have hl : ∀ c q, setN (setN N b .dead) base s c = .live q → (c = base ∧ s = .live q) ∨ (c ≠ base ∧ c ≠ b ∧ N c = .live q) := by
    intro c q h
    by_cases e : c = base
    · subst e; rw [setN_same] at h; exact .inl ⟨rfl, h⟩
    · rw [setN_other _ _ e] at h
      by_cases e' : c = b
      · subst e'; rw [setN_same] at h; cases h
      · rw [setN_other _ _ e'] at h; exact .inr ⟨e, e', h⟩
  have hnew : ∀ r, s = .live r → ∀ c q, c ≠ b → N c = .live q → r.blk ≠ q.blk := by
    intro r hr c q hcb hq he
    rcases hblk r hr with ⟨h1, _⟩ | ⟨rb, h1, h2⟩
    · have := (hnr.lt c q hq).1; omega
    · exact hcb (hnr.inj c b q rb hq h1 (by omega))
  refine ⟨hw.mono ?_, ⟨?_, ?_, fun k hk => Nat.lt_of_lt_of_le (hnr.sm k hk) hw.size⟩, ⟨?_, ?_⟩, ?_, ?_⟩
  · rintro k _ ⟨rb, h1, rfl⟩
    refine ⟨b, rb, ?_, h1, rfl⟩
    simp only [dom, hlook]
    cases h : Nat.beq base b with
    | true => rfl
    | false => simp
  · intro c c' q q' h h' he
    rcases hl c q h with ⟨rfl, h1⟩ | ⟨e1, e2, h1⟩
    · rcases hl c' q' h' with ⟨rfl, _⟩ | ⟨_, e4, h2⟩
      · rfl
      · exact absurd he (hnew q h1 c' q' e4 h2)
    · rcases hl c' q' h' with ⟨rfl, h2⟩ | ⟨_, e4, h2⟩
      · exact absurd he.symm (hnew q' h2 c q e2 h1)
      · exact hnr.inj c c' q q' h1 h2 he
  · intro c q h
    rcases hl c q h with ⟨rfl, h1⟩ | ⟨_, _, h1⟩
    · rcases hblk q h1 with ⟨h2, h3⟩ | ⟨rb, h2, h3⟩
      · exact ⟨by omega, fun hs => by have := hnr.sm _ hs; omega⟩
      · have := hnr.lt b rb h2
        exact ⟨by have := hw.size; omega, by rw [h3]; exact this.2⟩
    · have := hnr.lt c q h1
      exact ⟨Nat.lt_of_lt_of_le this.1 hw.size, this.2⟩
  · intro c
    by_cases e : c = base
    · subst e; exact .inl hf
    · by_cases e' : c = b
      · subst e'; exact .inr (.inr (by rw [setN_other _ _ e, setN_same]))
      · exact .inr (.inl (by rw [setN_other _ _ e, setN_other _ _ e']))
  · rintro k hk ⟨c, q, h, he⟩
    rcases hl c q h with ⟨_, h1⟩ | ⟨_, _, h1⟩
    · rcases hblk q h1 with ⟨h2, _⟩ | ⟨rb, h2, h3⟩
      · omega
      · exact ⟨b, rb, h2, by omega⟩
    · exact ⟨c, q, h1, he⟩
  · intro c hc
    have e1 : c ≠ base := by rintro rfl; exact hc (by simp [dom, hlook])
    have e2 : c ≠ b := by
      rintro rfl
      apply hc
      simp only [dom, hlook]
      cases h : Nat.beq base c with
      | true => rfl
      | false => simp
    rw [setN_other _ _ e1, setN_other _ _ e2]
  · intro c y hy
    simp only [hlook] at hy
    cases h : Nat.beq base c with
    | true =>
      rw [h] at hy
      cases hy
      have := Nat.eq_of_beq_eq_true h
      subst this
      exact hx
    | false =>
      rw [h] at hy
      cases h2 : Nat.beq b c with
      | false => rw [h2] at hy; cases hy
      | true =>
        rw [h2] at hy
        cases hy
        have := Nat.eq_of_beq_eq_true h2
        subst this
        exact (setN_other _ _ hne).trans (setN_same _ _ _)

end
end Go.Abs
