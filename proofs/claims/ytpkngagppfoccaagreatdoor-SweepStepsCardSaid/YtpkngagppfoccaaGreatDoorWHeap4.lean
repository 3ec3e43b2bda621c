/- Walks: a heap, its heads and what may be; pure facts of a head that is set. -/
import Derived.Test.YtpkngagppfoccaaGreatDoorWArena1
import Derived.Test.YtpkngagppfoccaaGreatDoorWCells1
import Derived.Test.YtpkngagppfoccaaGreatDoorWRAll
set_option linter.all false
set_option linter.unusedVariables false
set_option linter.unusedSimpArgs false
namespace Go.Abs
open Go.Proofs Go.Proofs.YtpkngagppfoccaaGreatDoor
set_option maxRecDepth 8000

def shapedH (h : Hp) : Bool := mayW h.w && (mayP h.pages && decide (h.w.length = 16 * h.pages.length ∧ h.cards.length = 2 * h.pages.length))
def wordAt (h : Hp) (a : Int) : Int := at0 h.w (a - 16).toNat
def pageAt (h : Hp) (a : Int) : Page := h.pages.getD (a / 16 - 1).toNat default
def fitsB (p : Page) (n : Int) : Bool := bif decide (p.kind = 2) then decide (runE n = 0 ∧ runOf n = p.arg) else decide (clsE n = 0 ∧ clsOf n = p.arg)
/-- Is a cell that is told of as free one? -/
def freeB (h : Hp) (c a : Int) : Bool := decide (0 < roomAt h.pages a ∧ pageAt h a = ⟨1, c⟩ ∧ wordAt h a = 0)
def listedB (h : Hp) (l : Lists) : Bool := l.l0.all (freeB h 0) && (l.l1.all (freeB h 1) && l.l2.all (freeB h 2))
/-- May a cell's first word be? -/
def cellB (h : Hp) (a : Int) : Bool := isHd (wordAt h a) && (bif (unp (wordAt h a)).used then fitsB (pageAt h a) (unp (wordAt h a)).n else decide ((pageAt h a).kind = 1))
abbrev lsts (h : Hp) (cs : List Lists) : List Lists := h.free :: cs
def mayH (h : Hp) (cs : List Lists) : Bool := shapedH h && ((h.free :: cs).all (listedB h) && ((cellStarts h.pages).all (cellB h) && decide (flats (h.free :: cs)).Nodup))
def wholeH (h : Hp) (cs : List Lists) : Bool := mayH h cs && (cellStarts h.pages).all fun a => wordAt h a != 0 || (flats (h.free :: cs)).contains a

/-- An address of a word. -/
def adr (h : Hp) (a : Int) : Prop := 16 ≤ a ∧ a < 16 * ((h.pages.length : Int) + 1)

theorem shapedH_of {h : Hp} (hs : shapedH h = true) : mayW h.w = true ∧ mayP h.pages = true ∧ h.w.length = 16 * h.pages.length ∧ h.cards.length = 2 * h.pages.length ∧ 1 ≤ h.pages.length ∧ h.pages.length ≤ 64 := by
  unfold shapedH at hs
  simp only [Bool.and_eq_true, decide_eq_true_eq] at hs
  have := (mayP_ok hs.2.1).2
  exact ⟨hs.1, hs.2.1, hs.2.2.1, hs.2.2.2, this.1, this.2⟩

theorem room_adr {h : Hp} {a : Int} (hr : roomAt h.pages a ≠ 0) : adr h a := by
  obtain ⟨_, i, hi⟩ := cellOf_mem (roomAt_pos hr)
  have h1 := hi.lo
  have h2 := hi.hi
  have h3 := hi.lt
  simp only at h1 h2
  exact ⟨by omega, by omega⟩

theorem wlen {l : List Int} (h : l.length ≤ maxN) : (l.length : Int) < 140737488355329 := by unfold maxN at h; omega

theorem word_spec (h : Hp) (a : Int) (hs : h.w.length = 16 * h.pages.length) (ha : adr h a) : Spec X 44 [] [h.tv, .int a] (Ret [] (.int (wordAt h a))) := by
  refine spec_go X_ok Tryz.f44 (by kernel_rfl) (by kernel_rfl) (by kernel_rfl) fun hb hH => ⟨rfl, ?_⟩
  obtain ⟨h1, h2⟩ := ha
  have hla : h.w.length ≤ maxN := ((hb (h.tv) (by simp)) (.d (.sl .int h.w)) (by simp [Hp.enc])).1
  have hl := wlen hla
  have ew : IntKind.i64.wrap (a - 16) = a - 16 := wrap64 (by omega) (by omega)
  show AOb ((0 : Int) ≤ IntKind.i64.wrap (a - 16) ∧ IntKind.i64.wrap (a - 16) < (h.w.length : Int)) _
  rw [ew]
  refine ⟨by omega, ?_⟩
  show ARet _ _ _
  exact ret_d rfl ⟨rfl, rfl⟩

theorem page_spec (h : Hp) (a : Int) (hs : h.w.length = 16 * h.pages.length) (ha : adr h a) : Spec X 47 [] [h.tv, .int a] (Ret [] (.dagg (EK.enc .page (pageAt h a)))) := by
  refine spec_go X_ok Tryz.f47 (by kernel_rfl) (by kernel_rfl) (by kernel_rfl) fun hb hH => ⟨rfl, ?_⟩
  obtain ⟨h1, h2⟩ := ha
  have hla : h.w.length ≤ maxN := ((hb (h.tv) (by simp)) (.d (.sl .int h.w)) (by simp [Hp.enc])).1
  have hl := wlen hla
  have e1 : tdv a 16 = a / 16 := tdv_eq (by omega) (by omega) (by omega)
  have ew : IntKind.i64.wrap (tdv a 16 - 1) = a / 16 - 1 := by rw [e1]; exact wrap64 (by omega) (by omega)
  show AOb _ _
  refine ⟨by decide, ?_⟩
  show AOb ((0 : Int) ≤ IntKind.i64.wrap (tdv a 16 - 1) ∧ IntKind.i64.wrap (tdv a 16 - 1) < (h.pages.length : Int)) _
  refine ⟨by rw [ew]; omega, ?_⟩
  show ARet _ _ [.agg [.d (DV.int (h.pages.getD (IntKind.i64.wrap (tdv a 16 - 1)).toNat default).kind), .d (DV.int (h.pages.getD (IntKind.i64.wrap (tdv a 16 - 1)).toNat default).arg)]]
  rw [ew]
  exact ret_d rfl ⟨rfl, rfl⟩

theorem decide_and' {p q : Prop} [Decidable p] [Decidable q] : decide (p ∧ q) = (decide p && decide q) := by simp

theorem len8 (n : Nat) (h : n ≤ maxN) : tdv (n : Int) 8 = ((n / 8 : Nat) : Int) := len_quo n 8 h

theorem shaped_spec (h : Hp) : Spec X 45 [] [h.tv] (Ret [] (.bo (shapedH h))) := by
  refine spec_go X_ok Tryz.f45 (by kernel_rfl) (by kernel_rfl) (by kernel_rfl) fun hb hH => ⟨rfl, ?_⟩
  have hla : h.w.length ≤ maxN := ((hb (h.tv) (by simp)) (.d (.sl .int h.w)) (by simp [Hp.enc])).1
  have hlp : h.pages.length ≤ maxN := ((hb (h.tv) (by simp)) (.d (.sl .page h.pages)) (by simp [Hp.enc])).1
  have hlc : h.cards.length ≤ maxN := ((hb (h.tv) (by simp)) (.d (.sl .bool h.cards)) (by simp [Hp.enc])).1
  have w1 := wlen hla
  have w2 : IntKind.i64.wrap (16 * (h.pages.length : Int)) = 16 * (h.pages.length : Int) := wrap64 (by omega) (by unfold maxN at hlp; omega)
  have w3 := len8 h.w.length hla
  show ACall _ _ _ _ _ _
  refine call_ret (aMay_spec h.w) rfl ?_
  show AIf (mayW h.w = true ∧ True) _ _
  refine ⟨fun h1 => ?_, fun h1 => ?_⟩
  · show ACall _ _ _ _ _ _
    refine call_ret (pMay_spec h.pages) rfl ?_
    show AOb _ _
    refine ⟨by simp, ?_⟩
    show ARet _ _ _
    refine ret_bo (x := bif (bif mayP h.pages then (h.w.length : Int) == IntKind.i64.wrap (16 * (h.pages.length : Int)) else false) then (h.cards.length : Int) == tdv (h.w.length : Int) 8 else false) ?_ ⟨rfl, rfl⟩
    rw [w2, w3]
    unfold shapedH
    rw [h1.1]
    have hw := of_decide_eq_true h1.1
    cases mayP h.pages with
    | false => rfl
    | true =>
      simp only [cond_true, Bool.true_and, decide_and']
      by_cases e1 : h.w.length = 16 * h.pages.length
      · have e2 : ((h.w.length : Int) == 16 * (h.pages.length : Int)) = true := by rw [beq_iff_eq]; omega
        rw [e2, decide_eq_true e1]
        by_cases e3 : h.cards.length = 2 * h.pages.length
        · rw [decide_eq_true e3]; simp; omega
        · rw [decide_eq_false e3]; simp; omega
      · have e2 : ((h.w.length : Int) == 16 * (h.pages.length : Int)) = false := by rw [beq_eq_false_iff_ne]; omega
        rw [e2, decide_eq_false e1]
        rfl
  · have h1 : mayW h.w = false := Bool.eq_false_iff.2 fun h' => h1 ⟨h', trivial⟩
    show AOb (mayW h.w = false) _
    refine ⟨h1, ?_⟩
    show AOb _ _
    refine ⟨by simp, ?_⟩
    show ARet _ _ _
    refine ret_bo (x := false) ?_ ⟨rfl, rfl⟩
    unfold shapedH
    rw [h1]
    rfl

theorem fits_spec (p : Page) (n : Int) (hn : n ≤ 9223372036854775807) : Spec X 48 [] [.dagg (EK.enc .page p), .int n] (Ret [] (.bo (fitsB p n))) := by
  refine spec_go X_ok Tryz.f48 (by kernel_rfl) (by kernel_rfl) (by kernel_rfl) fun hb hH => ⟨rfl, ?_⟩
  unfold fitsB
  show ABr (decide (p.kind = 2)) _ _
  refine ⟨fun h => ?_, fun h => ?_⟩
  · rw [h]
    show ACall _ _ _ _ _ _
    refine call_ret (cRun_spec n hn) rfl ?_
    show ARet _ _ _
    refine ret_bo (x := bif decide (runE n = 0) then decide (runOf n = p.arg) else false) ?_ ⟨rfl, rfl⟩
    rw [cond_true, decide_and']
    cases decide (runE n = 0) <;> rfl
  · rw [h]
    show ACall _ _ _ _ _ _
    refine call_ret (cOf_spec n) rfl ?_
    show ARet _ _ _
    refine ret_bo (x := bif decide (clsE n = 0) then decide (clsOf n = p.arg) else false) ?_ ⟨rfl, rfl⟩
    rw [cond_false, decide_and']
    cases decide (clsE n = 0) <;> rfl

theorem page_eq (p : Page) (k c : Int) : (p.kind == k && (p.arg == c && true)) = decide (p = ⟨k, c⟩) := by
  obtain ⟨a, b⟩ := p
  by_cases h1 : a = k <;> by_cases h2 : b = c <;> simp [h1, h2]

/-! A cell that is told of as free. -/
theorem listed1_spec (h : Hp) (c a : Int) (hs : shapedH h = true) : Spec X 86 [] (.int a :: capT [.rp h.enc, .rp [DV.int c]]) (Ret [] (.bo (freeB h c a))) := by
  obtain ⟨_, _, hsl, _⟩ := shapedH_of hs
  refine spec_go X_ok Tryz.f86 (by kernel_rfl) (by kernel_rfl) (by kernel_rfl) fun hb hH => ⟨rfl, ?_⟩
  show ADCall _ _ _ _ _ _
  refine .mk _ _ (Room_spec h.pages a) rfl ?_
  unfold freeB
  show ABr (decide (roomAt h.pages a > 0)) _ _
  refine ⟨fun h1 => ?_, fun h1 => ?_⟩
  · have h1 : 0 < roomAt h.pages a := of_decide_eq_true h1
    have had := room_adr (h := h) (a := a) (by omega)
    show ADCall _ _ _ _ _ _
    refine .mk _ _ (page_spec h a hsl had) rfl ?_
    show ABr ((pageAt h a).kind == 1 && ((pageAt h a).arg == c && true)) _ _
    rw [page_eq]
    refine ⟨fun h2 => ?_, fun h2 => ?_⟩
    · show ADCall _ _ _ _ _ _
      refine .mk _ _ (word_spec h a hsl had) rfl ?_
      show ARet _ _ _
      refine ret_bo (x := wordAt h a == 0) ?_ ⟨rfl, rfl⟩
      have h2 := of_decide_eq_true h2
      by_cases h3 : wordAt h a = 0 <;> simp [h1, h2, h3]
    · show ARet _ _ _
      refine ret_bo (x := false) ?_ ⟨rfl, rfl⟩
      have h2 := of_decide_eq_false h2
      simp [h2]
  · have h1 := of_decide_eq_false h1
    show ABr _ _ _
    refine ⟨fun h => absurd h (by decide), fun _ => ?_⟩
    show ARet _ _ _
    refine ret_bo (x := false) ?_ ⟨rfl, rfl⟩
    have h2 : ¬ 0 < roomAt h.pages a := by omega
    simp [h2]

theorem listed_spec (g : Hp) (l : Lists) (hs : shapedH g = true) : Spec X 49 [] [g.tv, l.tv] (Ret [] (.bo (listedB g l))) := by
  refine spec_go X_ok Tryz.f49 (by kernel_rfl) (by kernel_rfl) (by kernel_rfl) fun hb hH => ⟨rfl, ?_⟩
  unfold listedB
  show ∃ n, _
  refine ⟨4, ?_⟩
  show ALoop _ _ _ _
  refine .next ?_
  show ABr _ _ _
  refine ⟨fun _ => ?_, fun h => absurd h (by decide)⟩
  show AOb _ _
  refine ⟨by decide, ?_⟩
  show ACall _ _ _ _ _ _
  refine call_ret (every_spec l.l0 86 [.rp g.enc, .rp [DV.int 0]] (freeB g 0) (fun x _ => listed1_spec g 0 x hs)) rfl ?_
  show ABr (!l.l0.all (freeB g 0)) _ _
  refine ⟨fun h => ?_, fun h => ?_⟩
  · have h0 : l.l0.all (freeB g 0) = false := by simpa using h
    rw [h0]
    show ARet _ _ _
    exact ret_d rfl ⟨rfl, rfl⟩
  have h0 : l.l0.all (freeB g 0) = true := by simpa using h
  rw [h0]
  show ALoop _ _ _ _
  refine .next ?_
  show ABr _ _ _
  refine ⟨fun _ => ?_, fun h => absurd h (by decide)⟩
  show AOb _ _
  refine ⟨by decide, ?_⟩
  show ACall _ _ _ _ _ _
  refine call_ret (every_spec l.l1 86 [.rp g.enc, .rp [DV.int 1]] (freeB g 1) (fun x _ => listed1_spec g 1 x hs)) rfl ?_
  show ABr (!l.l1.all (freeB g 1)) _ _
  refine ⟨fun h => ?_, fun h => ?_⟩
  · have h1 : l.l1.all (freeB g 1) = false := by simpa using h
    rw [h1]
    show ARet _ _ _
    exact ret_d rfl ⟨rfl, rfl⟩
  have h1 : l.l1.all (freeB g 1) = true := by simpa using h
  rw [h1]
  show ALoop _ _ _ _
  refine .next ?_
  show ABr _ _ _
  refine ⟨fun _ => ?_, fun h => absurd h (by decide)⟩
  show AOb _ _
  refine ⟨by decide, ?_⟩
  show ACall _ _ _ _ _ _
  refine call_ret (every_spec l.l2 86 [.rp g.enc, .rp [DV.int 2]] (freeB g 2) (fun x _ => listed1_spec g 2 x hs)) rfl ?_
  show ABr (!l.l2.all (freeB g 2)) _ _
  refine ⟨fun h => ?_, fun h => ?_⟩
  · have h2 : l.l2.all (freeB g 2) = false := by simpa using h
    rw [h2]
    show ARet _ _ _
    exact ret_d rfl ⟨rfl, rfl⟩
  have h2 : l.l2.all (freeB g 2) = true := by simpa using h
  rw [h2]
  show ALoop _ _ _ _
  refine .next ?_
  show ABr _ _ _
  refine ⟨fun h => absurd h (by decide), fun _ => ?_⟩
  show ARet _ _ _
  exact ret_d rfl ⟨rfl, rfl⟩

theorem unp_n (w : Int) : (unp w).n ≤ 63 := by
  unfold unp
  split
  · rename_i h; exact (may_range h).1.2
  · decide

theorem cell1_spec (h : Hp) (a : Int) (hs : shapedH h = true) (ha : adr h a) : Spec X 46 [] (.int a :: capT [.rp h.enc]) (Ret [] (.bo (cellB h a))) := by
  obtain ⟨_, _, hsl, _⟩ := shapedH_of hs
  refine spec_go X_ok Tryz.f46 (by kernel_rfl) (by kernel_rfl) (by kernel_rfl) fun hb hH => ⟨rfl, ?_⟩
  show ACall _ _ _ _ _ _
  refine call_ret (word_spec h a hsl ha) rfl ?_
  show ACall _ _ _ _ _ _
  refine call_ret (hUnpack_spec (wordAt h a)) rfl ?_
  show ACall _ _ _ _ _ _
  refine call_ret (page_spec h a hsl ha) rfl ?_
  have hn := unp_n (wordAt h a)
  unfold cellB
  generalize hu : unp (wordAt h a) = u at hn
  show AIf (u.used = true ∧ (bif !u.used then (pageAt h a).kind == 1 else false) = false ∧ isHd (wordAt h a) = true ∧ True) _ _
  refine ⟨fun h1 => ?_, fun h1 => ?_⟩
  · show ACall _ _ _ _ _ _
    refine call_ret (fits_spec (pageAt h a) u.n (by omega)) rfl ?_
    show ARet _ _ _
    refine ret_bo (x := bif isHd (wordAt h a) then (bif (bif !u.used then (pageAt h a).kind == 1 else false) then true else fitsB (pageAt h a) u.n) else false) ?_ ⟨rfl, rfl⟩
    rw [h1.2.2.1, h1.1]
    rfl
  · show AOb _ _
    refine ⟨by exact fun ⟨g1, g2, _⟩ => Bool.eq_false_iff.2 fun g3 => h1 ⟨g3, g1, g2, trivial⟩, ?_⟩
    show ARet _ _ _
    refine ret_bo (x := bif isHd (wordAt h a) then (bif (bif !u.used then (pageAt h a).kind == 1 else false) then true else false) else false) ?_ ⟨rfl, rfl⟩
    cases hi : isHd (wordAt h a) with
    | false => rfl
    | true =>
      cases hud : u.used with
      | true => exact absurd ⟨hud, by rw [hud]; rfl, hi, trivial⟩ h1
      | false =>
        simp only [cond_true, cond_false, Bool.true_and, Bool.not_false]
        by_cases hk : (pageAt h a).kind = 1 <;> simp [hk]

theorem start_adr {h : Hp} {a : Int} (ha : a ∈ cellStarts h.pages) : adr h a := room_adr (mem_starts.1 ha)

theorem hHMay_spec (g : Hp) (cs : List Lists) (hm : (flats (lsts g cs)).length ≤ most) (hc : cs.length < most) : Spec X 20 [] [g.tv, .c (.d (.sl .lists cs))] (Ret [] (.bo (mayH g cs))) := by
  refine spec_go X_ok Tryz.f20 (by kernel_rfl) (by kernel_rfl) (by kernel_rfl) fun hb hH => ⟨rfl, ?_⟩
  unfold mayH
  show ACall _ _ _ _ _ _
  refine call_ret (shaped_spec g) rfl ?_
  show ABr (!shapedH g) _ _
  refine ⟨fun h => ?_, fun h => ?_⟩
  · have hs : shapedH g = false := by simpa using h
    rw [hs]
    show ARet _ _ _
    exact ret_d rfl ⟨rfl, rfl⟩
  have hs : shapedH g = true := by simpa using h
  rw [hs]
  show AOb (1 + cs.length ≤ most) _
  refine ⟨by omega, ?_⟩
  obtain ⟨L, hL⟩ : ∃ L : List Lists, L = g.free :: cs := ⟨_, rfl⟩
  have hlen : L.length ≤ most := by rw [hL, List.length_cons]; omega
  unfold most at hlen
  show ∃ n, _
  refine ⟨0, ALoop.inv (ι := {i : Nat // i ≤ L.length ∧ L.all (listedB g) = (L.drop i).all (listedB g)}) (fun i => ⟨[(2, .c (.d (.rp g.enc))), (5, .c (.d (.fn 46 [] [.rp g.enc]))), (6, .c (.d (.sl .lists L))), (18, .c (.d (.sl .lists L))), (19, .int L.length), (20, .int i.1)], [], 32⟩) (fun i => L.length - i.1) ⟨0, Nat.zero_le _, by rw [List.drop_zero]⟩ ?_ ?_⟩
  · exact ⟨[], .cons _ _ _ (.c _ _ (.frz _ _ rfl)) (.cons _ _ _ (.c _ _ (.frz _ _ rfl)) (.cons _ _ _ (.frz rfl hL.symm) (.cons _ _ _ (.frz rfl hL.symm) (.cons _ _ _ (.int_eq (by rw [hL]; rfl)) (.cons _ _ _ .same .nil))))), .nil, rfl⟩
  · rintro ⟨i, hi, he⟩
    have hLe : (g.free :: cs).all (listedB g) = L.all (listedB g) := by rw [hL]
    show ABr (decide ((i : Int) < (L.length : Int))) _ _
    refine ⟨fun h => ?_, fun h => ?_⟩
    · have hlt : i < L.length := by simpa using h
      have he : L.all (listedB g) = (listedB g (L.getD i default) && (L.drop (i + 1)).all (listedB g)) := by
        rw [he, List.drop_eq_getElem_cons hlt, List.all_cons, List.getD_eq_getElem?_getD, List.getElem?_eq_getElem hlt]
        rfl
      show AOb ((0 : Int) ≤ (i : Int) ∧ (i : Int) < (L.length : Int)) _
      refine ⟨by omega, ?_⟩
      show ACall _ _ _ _ _ _
      refine call_ret (listed_spec g (L.getD i default) hs) rfl ?_
      show ABr (!listedB g (L.getD i default)) _ _
      refine ⟨fun h => ?_, fun h => ?_⟩
      · have hf : listedB g (L.getD i default) = false := by simpa using h
        show ARet _ _ _
        refine ret_bo (x := false) ?_ ⟨rfl, rfl⟩
        rw [hLe, he, hf]
        rfl
      · have hf : listedB g (L.getD i default) = true := by simpa using h
        show ARound _ _ _ _
        exact ⟨⟨i + 1, hlt, by rw [he, hf, Bool.true_and]⟩, by show L.length - (i + 1) < L.length - i; omega, [], .cons _ _ _ .same (.cons _ _ _ .same (.cons _ _ _ .same (.cons _ _ _ .same (.cons _ _ _ .same (.cons _ _ _ (.int_eq (wrapP (i := i) (by unfold maxN; omega))) .nil))))), .nil, rfl⟩
    · have hge : i = L.length := by simp at h; omega
      rw [hge, List.drop_length] at he
      have hall : (g.free :: cs).all (listedB g) = true := by rw [hLe, he]; rfl
      show ACall _ _ _ _ _ _
      refine .mk _ (cAll_spec g.pages) fun H r ⟨eH, er⟩ _ _ => ⟨.inl rfl, ?_⟩
      subst eH er
      show ACall _ _ _ _ _ _
      refine call_ret (every_spec (cellStarts g.pages) 46 [.rp g.enc] (cellB g) (fun x hx => cell1_spec g x hs (start_adr hx))) rfl ?_
      show AIf ((cellStarts g.pages).all (cellB g) = true ∧ True) _ _
      refine ⟨fun h1 => ?_, fun h1 => ?_⟩
      · show ACall _ _ _ _ _ _
        refine call_ret (Apart_spec L (by rw [hL]; exact hm)) rfl ?_
        show ARet _ _ _
        refine ret_bo (x := decide (flats L).Nodup) ?_ ⟨rfl, rfl⟩
        rw [hall, h1.1, hL]
        rfl
      · have h1 : (cellStarts g.pages).all (cellB g) = false := Bool.eq_false_iff.2 fun h' => h1 ⟨h', trivial⟩
        show AOb ((cellStarts g.pages).all (cellB g) = false) _
        refine ⟨h1, ?_⟩
        show ARet _ _ _
        refine ret_bo (x := false) ?_ ⟨rfl, rfl⟩
        rw [hall, h1]
        rfl
end Go.Abs

namespace Go.Abs
open Go.Proofs Go.Proofs.YtpkngagppfoccaaGreatDoor
set_option maxRecDepth 8000

end Go.Abs

namespace Go.Abs
open Go.Proofs Go.Proofs.YtpkngagppfoccaaGreatDoor
set_option maxRecDepth 8000

abbrev nilS : TV := .lit (.slice none 0 0)
def Hp.zero : Hp := ⟨[], [], ⟨[], [], []⟩, []⟩
/-- There are not too many cells that are told of as free. -/
def Hp.light (h : Hp) : Prop := (flats [h.free]).length ≤ most

def headE (h : Hp) (a : Int) : Int := bif mayH h [] then (bif decide (roomAt h.pages a = 0) then 3 else (bif (unp (wordAt h a)).used then 0 else 3)) else 1
def headH (h : Hp) (a : Int) : Hd := bif decide (headE h a = 0) then unp (wordAt h a) else Hd.zero
def usedH (h : Hp) : List Int := bif mayH h [] then (cellStarts h.pages).filter (fun a => wordAt h a != 0) else []
theorem hHMay0_spec (g : Hp) (hl : g.light) : Spec X 20 [] [g.tv, nilS] (Ret [] (.bo (mayH g []))) :=
  (hHMay_spec g [] hl (by unfold most; simp)).args (.cons _ _ _ _ (.refl _) (.cons _ _ _ _ (.sl .lists [] _ rfl) .nil))
theorem mayH_shaped {h : Hp} {cs : List Lists} (hm : mayH h cs = true) : shapedH h = true := by
  unfold mayH at hm; rw [Bool.and_eq_true] at hm; exact hm.1

theorem headH_no {g : Hp} {a : Int} {e : Int} (h : headE g a = e) (he : e ≠ 0) : headH g a = Hd.zero := by unfold headH; rw [h, decide_eq_false he]; rfl
theorem headH_yes {g : Hp} {a : Int} (h : headE g a = 0) : headH g a = unp (wordAt g a) := by unfold headH; rw [h]; rfl

theorem hHead_spec (g : Hp) (a : Int) (hl : g.light) : Spec X 18 [] [g.tv, .int a] (Ret [] (.tup [(headH g a).tv, .int (headE g a)])) := by
  refine spec_go X_ok Tryz.f18 (by kernel_rfl) (by kernel_rfl) (by kernel_rfl) fun hb hH => ⟨rfl, ?_⟩
  show ACall _ _ _ _ _ _
  refine call_ret (hHMay0_spec g hl) rfl ?_
  show ABr (!mayH g []) _ _
  refine ⟨fun h => ?_, fun h => ?_⟩
  · have hm : mayH g [] = false := by simpa using h
    have hE : headE g a = 1 := by unfold headE; rw [hm]; rfl
    rw [headH_no hE (by decide), hE]
    show ARet _ _ _
    exact ret_d rfl ⟨rfl, rfl⟩
  have hm : mayH g [] = true := by simpa using h
  have hs := mayH_shaped hm
  obtain ⟨_, _, hsl, _⟩ := shapedH_of hs
  show ACall _ _ _ _ _ _
  refine call_ret (Room_spec g.pages a) rfl ?_
  show ABr (decide (roomAt g.pages a = 0)) _ _
  refine ⟨fun h => ?_, fun h => ?_⟩
  · have hE : headE g a = 3 := by unfold headE; rw [hm, h]; rfl
    rw [headH_no hE (by decide), hE]
    show ARet _ _ _
    exact ret_d rfl ⟨rfl, rfl⟩
  · have had := room_adr (h := g) (a := a) (of_decide_eq_false h)
    have hr := h
    show ACall _ _ _ _ _ _
    refine call_ret (word_spec g a hsl had) rfl ?_
    show ACall _ _ _ _ _ _
    refine call_ret (hUnpack_spec (wordAt g a)) rfl ?_
    show ABr (!(unp (wordAt g a)).used) _ _
    refine ⟨fun h => ?_, fun h => ?_⟩
    · have hu : (unp (wordAt g a)).used = false := by simpa using h
      have hE : headE g a = 3 := by unfold headE; rw [hm, hr, hu]; rfl
      rw [headH_no hE (by decide), hE]
      show ARet _ _ _
      exact ret_d rfl ⟨rfl, rfl⟩
    · have hu : (unp (wordAt g a)).used = true := by simpa using h
      have hE : headE g a = 0 := by unfold headE; rw [hm, hr, hu]; rfl
      rw [headH_yes hE, hE]
      show ARet _ _ _
      exact ret_d rfl ⟨rfl, rfl⟩

theorem hown_spec (g : Hp) (hl : g.light) (hs : shapedH g = true) : Spec X 95 [] [g.tv] (Ret [] g.tv) := by
  refine spec_go X_ok Tryz.f95 (by kernel_rfl) (by kernel_rfl) (by kernel_rfl) fun hb hH => ⟨rfl, ?_⟩
  obtain ⟨_, _, h1, h2, h3, h4⟩ := shapedH_of hs
  have hf : g.free.l0.length + g.free.l1.length + g.free.l2.length ≤ most := by
    have := hl
    unfold Hp.light at this
    simp [flats, Lists.flat] at this
    omega
  have hm : 1024 ≤ most := by decide
  show ADCall _ _ _ _ _ _
  refine .mk _ _ (CloneInts_spec g.w (by omega)) rfl ?_
  show ADCall _ _ _ _ _ _
  refine .mk _ _ (ClonePages_spec g.pages (by omega)) rfl ?_
  show ADCall _ _ _ _ _ _
  refine .mk _ _ (CloneBools_spec g.cards (by omega)) rfl ?_
  show ∃ n, _
  refine ⟨4, ?_⟩
  show ALoop _ _ _ _
  refine .next ?_
  show ABr _ _ _
  refine ⟨fun _ => ?_, fun h => absurd h (by decide)⟩
  show AOb _ _
  refine ⟨by decide, ?_⟩
  show ACall _ _ _ _ _ _
  refine call_ret (CloneInts_spec g.free.l0 (by omega)) rfl ?_
  show AOb _ _
  refine ⟨by decide, ?_⟩
  show ALoop _ _ _ _
  refine .next ?_
  show ABr _ _ _
  refine ⟨fun _ => ?_, fun h => absurd h (by decide)⟩
  show AOb _ _
  refine ⟨by decide, ?_⟩
  show ACall _ _ _ _ _ _
  refine call_ret (CloneInts_spec g.free.l1 (by omega)) rfl ?_
  show AOb _ _
  refine ⟨by decide, ?_⟩
  show ALoop _ _ _ _
  refine .next ?_
  show ABr _ _ _
  refine ⟨fun _ => ?_, fun h => absurd h (by decide)⟩
  show AOb _ _
  refine ⟨by decide, ?_⟩
  show ACall _ _ _ _ _ _
  refine call_ret (CloneInts_spec g.free.l2 (by omega)) rfl ?_
  show AOb _ _
  refine ⟨by decide, ?_⟩
  show ALoop _ _ _ _
  refine .next ?_
  show ABr _ _ _
  refine ⟨fun h => absurd h (by decide), fun _ => ?_⟩
  show ARet _ _ _
  exact ret_d rfl ⟨rfl, rfl⟩
end Go.Abs

namespace Go.Abs
open Go.Proofs Go.Proofs.YtpkngagppfoccaaGreatDoor
set_option maxRecDepth 8000

def setE (g : Hp) (a : Int) (x : Hd) : Int := bif decide (headE g a = 0) then (bif decide (x.May ∧ x.used = true ∧ x.n = (headH g a).n) then 0 else 1) else headE g a
def putH (g : Hp) (a : Int) (v : Int) : Hp := ⟨g.w.set (a - 16).toNat v, g.pages, g.free, g.cards⟩
def setH (g : Hp) (a : Int) (x : Hd) : Hp := bif decide (setE g a x = 0) then putH g a x.word else Hp.zero

theorem setH_no {g : Hp} {a : Int} {x : Hd} {e : Int} (h : setE g a x = e) (he : e ≠ 0) : setH g a x = Hp.zero := by unfold setH; rw [h, decide_eq_false he]; rfl
theorem setH_yes {g : Hp} {a : Int} {x : Hd} (h : setE g a x = 0) : setH g a x = putH g a x.word := by unfold setH; rw [h]; rfl

theorem headE_of {g : Hp} {a : Int} (h : headE g a = 0) : mayH g [] = true ∧ roomAt g.pages a ≠ 0 ∧ (unp (wordAt g a)).used = true := by
  unfold headE at h
  cases hm : mayH g [] with
  | false => rw [hm] at h; exact absurd h (by simp)
  | true =>
    rw [hm] at h
    by_cases hr : roomAt g.pages a = 0
    · rw [decide_eq_true hr] at h; exact absurd h (by simp)
    · rw [decide_eq_false hr] at h
      cases hu : (unp (wordAt g a)).used with
      | false => rw [hu] at h; exact absurd h (by decide)
      | true => exact ⟨rfl, hr, rfl⟩

theorem hSet_spec (g : Hp) (a : Int) (x : Hd) (hl : g.light) : Spec X 63 [] [g.tv, .int a, x.tv] (Ret [] (.tup [(setH g a x).tv, .int (setE g a x)])) := by
  refine spec_go X_ok Tryz.f63 (by kernel_rfl) (by kernel_rfl) (by kernel_rfl) fun hb hH => ⟨rfl, ?_⟩
  show ACall _ _ _ _ _ _
  refine call_ret (hHead_spec g a hl) rfl ?_
  show ABr (headE g a != 0) _ _
  refine ⟨fun h => ?_, fun h => ?_⟩
  · have h0 : headE g a ≠ 0 := by simpa using h
    have hE : setE g a x = headE g a := by unfold setE; rw [decide_eq_false h0]; rfl
    rw [setH_no hE h0, hE]
    show ARet _ _ _
    exact ⟨[], [], _, .cons _ _ _ _ (.agg _ _ (.cons _ _ _ _ (.nilsl .int) (.cons _ _ _ _ (.nilsl .page) (.cons _ _ _ _ (.nilsl .int) (.cons _ _ _ _ (.nilsl .int) (.cons _ _ _ _ (.nilsl .int) (.cons _ _ _ _ (.nilsl .bool) .nil))))))) (.cons _ _ _ _ .same .nil), .nil, rfl, rfl, rfl⟩
  · have h0 : headE g a = 0 := by simpa using h
    obtain ⟨hm, hr, hu⟩ := headE_of h0
    have hs := mayH_shaped hm
    obtain ⟨hw, _, hsl, _⟩ := shapedH_of hs
    have had := room_adr (h := g) (a := a) hr
    show ACall _ _ _ _ _ _
    refine call_ret (hPack_spec x) rfl ?_
    have hiff : (bif (bif packE x != 0 then true else !x.used) then true else x.n != (headH g a).n) = !decide (x.May ∧ x.used = true ∧ x.n = (headH g a).n) := by
      unfold packE
      by_cases c1 : x.May
      · rw [if_pos c1]
        cases c2 : x.used with
        | false => simp [c1, c2]
        | true =>
          by_cases c3 : x.n = (headH g a).n <;> simp [c1, c2, c3]
      · rw [if_neg c1]
        simp [c1]
    show ABr (bif (bif packE x != 0 then true else !x.used) then true else x.n != (headH g a).n) _ _
    rw [hiff]
    refine ⟨fun h => ?_, fun h => ?_⟩
    · have hc : decide (x.May ∧ x.used = true ∧ x.n = (headH g a).n) = false := by
        cases hd : decide (x.May ∧ x.used = true ∧ x.n = (headH g a).n) with
        | false => rfl
        | true => rw [hd] at h; exact absurd h (by decide)
      have hE : setE g a x = 1 := by unfold setE; rw [h0, hc]; rfl
      rw [setH_no hE (by decide), hE]
      show ARet _ _ _
      exact ⟨[], [], _, .cons _ _ _ _ (.agg _ _ (.cons _ _ _ _ (.nilsl .int) (.cons _ _ _ _ (.nilsl .page) (.cons _ _ _ _ (.nilsl .int) (.cons _ _ _ _ (.nilsl .int) (.cons _ _ _ _ (.nilsl .int) (.cons _ _ _ _ (.nilsl .bool) .nil))))))) (.cons _ _ _ _ .same .nil), .nil, rfl, rfl, rfl⟩
    · have hc : decide (x.May ∧ x.used = true ∧ x.n = (headH g a).n) = true := by
        cases hd : decide (x.May ∧ x.used = true ∧ x.n = (headH g a).n) with
        | true => rfl
        | false => rw [hd] at h; exact absurd h (by decide)
      have hE : setE g a x = 0 := by unfold setE; rw [h0, hc]; rfl
      have hM : x.May := (of_decide_eq_true hc).1
      rw [setH_yes hE, hE]
      show ACall _ _ _ _ _ _
      refine call_ret (hown_spec g hl hs) rfl ?_
      have hp : packW x = x.word := if_pos hM
      show ACall _ _ _ _ _ _
      refine call_ret (aPut_spec g.w a (packW x) hw ⟨had.1, by have := had.2; omega⟩) rfl ?_
      rw [hp]
      show ARet _ _ _
      exact ret_d rfl ⟨rfl, rfl⟩
end Go.Abs

namespace Go.Abs

theorem mayH_of {g : Hp} {cs : List Lists} (h : mayH g cs = true) : shapedH g = true ∧ (∀ l ∈ g.free :: cs, listedB g l = true) ∧ (∀ a ∈ cellStarts g.pages, cellB g a = true) ∧ (flats (g.free :: cs)).Nodup := by
  unfold mayH at h
  simp only [Bool.and_eq_true, List.all_eq_true, decide_eq_true_eq] at h
  exact ⟨h.1, h.2.1, h.2.2.1, h.2.2.2⟩

theorem mayH_mk {g : Hp} {cs : List Lists} (h1 : shapedH g = true) (h2 : ∀ l ∈ g.free :: cs, listedB g l = true) (h3 : ∀ a ∈ cellStarts g.pages, cellB g a = true) (h4 : (flats (g.free :: cs)).Nodup) : mayH g cs = true := by
  unfold mayH
  simp only [Bool.and_eq_true, List.all_eq_true, decide_eq_true_eq]
  exact ⟨h1, h2, h3, h4⟩

/-! Words that are heads. -/
theorem isHd_unp {w : Int} (h : isHd w = true) : unp w = hdOf w ∧ (hdOf w).May := by
  have hm : (hdOf w).May := of_decide_eq_true h
  exact ⟨if_pos hm, hm⟩

theorem used_ne {w : Int} (h : isHd w = true) : (unp w).used = (w != 0) := by
  obtain ⟨e, hm⟩ := isHd_unp h
  rw [e]
  cases hu : (hdOf w).used with
  | true =>
    have h1 : w % 2 = 1 := of_decide_eq_true hu
    have : w ≠ 0 := by omega
    simp [this]
  | false =>
    have hz : hdOf w = Hd.zero := by
      unfold Hd.May at hm
      rw [if_neg (by simp [hu])] at hm
      exact hm
    have := hdOf_word w
    rw [hz] at this
    have hw : w = 0 := by rw [← this]; rfl
    subst hw
    rfl

/-! How many fields fit. -/
theorem cls_fits {n c : Int} (h1 : clsE n = 0) (h2 : clsOf n = c) (hc : 0 ≤ c ∧ c ≤ 2) : 1 ≤ n ∧ n < clsW c := by
  have hn : ¬ n < 1 ∧ ¬ n > 63 := by
    unfold clsE at h1
    by_cases g1 : n < 1
    · rw [if_pos g1] at h1; exact absurd h1 (by decide)
    · rw [if_neg g1] at h1
      by_cases g2 : n > 63
      · rw [if_pos g2] at h1; exact absurd h1 (by decide)
      · exact ⟨g1, g2⟩
  unfold clsOf at h2
  rw [if_neg (by omega)] at h2
  by_cases g1 : n ≤ 1
  · rw [if_pos g1] at h2; subst h2; exact ⟨by omega, by rw [show clsW 0 = 2 from rfl]; omega⟩
  · rw [if_neg g1] at h2
    by_cases g2 : n ≤ 3
    · rw [if_pos g2] at h2; subst h2; exact ⟨by omega, by rw [show clsW 1 = 4 from rfl]; omega⟩
    · rw [if_neg g2] at h2
      by_cases g3 : n ≤ 7
      · rw [if_pos g3] at h2; subst h2; exact ⟨by omega, by rw [show clsW 2 = 8 from rfl]; omega⟩
      · rw [if_neg g3] at h2; omega

theorem run_fits {n c : Int} (h1 : runE n = 0) (h2 : runOf n = c) : 1 ≤ n ∧ n < 16 * c ∧ clsE n = 0 := by
  unfold runE at h1
  unfold runOf at h2
  by_cases g0 : clsE n ≠ 0
  · rw [if_pos g0] at h1; exact absurd h1 g0
  · rw [if_neg g0] at h1 h2
    have hE : clsE n = 0 := by omega
    by_cases g1 : clsOf n < 3
    · rw [if_pos g1] at h1; exact absurd h1 (by decide)
    · rw [if_neg g1] at h2
      have hn : ¬ n < 1 := by
        intro g
        unfold clsE at hE
        rw [if_pos g] at hE
        exact absurd hE (by decide)
      exact ⟨by omega, by omega, hE⟩

/-- A cell with a head that is used: its fields fit. -/
theorem cell_fits {g : Hp} {a : Int} (hr : roomAt g.pages a ≠ 0) (hc : cellB g a = true) (hu : (unp (wordAt g a)).used = true) : 1 ≤ (unp (wordAt g a)).n ∧ (unp (wordAt g a)).n < roomAt g.pages a := by
  obtain ⟨_, i, hi⟩ := cellOf_mem (roomAt_pos hr)
  unfold cellB at hc
  rw [hu, cond_true, Bool.and_eq_true] at hc
  have hpg : pageAt g a = g.pages.getD i default := by
    unfold pageAt
    have := hi.div
    simp only at this
    rw [this]
    simp
  have hf := hc.2
  unfold fitsB at hf
  rw [hpg] at hf
  rcases hi.kind with ⟨k1, k2, k3, _, k5⟩ | ⟨k1, k2, k3, _, k5⟩
  · rw [k1] at hf
    have hf := of_decide_eq_true (show decide _ = true from hf)
    simp only at k5
    rw [k5]
    exact cls_fits hf.1 hf.2 ⟨k2, k3⟩
  · rw [k1] at hf
    have hf := of_decide_eq_true (show decide _ = true from hf)
    simp only at k5
    have := run_fits hf.1 hf.2
    rw [k5]
    omega

/-! Which are objects. -/
theorem usedH_eq {g : Hp} (hm : mayH g [] = true) : usedH g = (cellStarts g.pages).filter (fun a => wordAt g a != 0) := by unfold usedH; rw [hm]; rfl

theorem mem_usedH {g : Hp} {a : Int} : a ∈ usedH g ↔ headE g a = 0 := by
  constructor
  · intro h
    cases hm : mayH g [] with
    | false => unfold usedH at h; rw [hm] at h; cases h
    | true =>
      rw [usedH_eq hm, List.mem_filter] at h
      have hr := mem_starts.1 h.1
      have hc := (mayH_of hm).2.2.1 a h.1
      unfold cellB at hc
      rw [Bool.and_eq_true] at hc
      have hu := used_ne hc.1
      rw [h.2] at hu
      unfold headE
      rw [hm, decide_eq_false hr, hu]
      rfl
  · intro h
    obtain ⟨hm, hr, hu⟩ := headE_of h
    have hs := mem_starts.2 hr
    have hc := (mayH_of hm).2.2.1 a hs
    unfold cellB at hc
    rw [Bool.and_eq_true] at hc
    rw [usedH_eq hm, List.mem_filter]
    exact ⟨hs, by rw [← used_ne hc.1]; exact hu⟩

theorem head_fits {g : Hp} {a : Int} (h : headE g a = 0) : (headH g a).used = true ∧ 1 ≤ (headH g a).n ∧ (headH g a).n < roomAt g.pages a ∧ adr g a := by
  obtain ⟨hm, hr, hu⟩ := headE_of h
  rw [headH_yes h]
  have := cell_fits hr ((mayH_of hm).2.2.1 a (mem_starts.2 hr)) hu
  exact ⟨hu, this.1, this.2, room_adr hr⟩

end Go.Abs

namespace Go.Abs

/-- What setting a head leaves. -/
structure PutOk (g : Hp) (a : Int) (x : Hd) : Prop where
  may : mayH g [] = true
  room : roomAt g.pages a ≠ 0
  used : (unp (wordAt g a)).used = true
  xmay : x.May
  xused : x.used = true
  xn : x.n = (unp (wordAt g a)).n

theorem setE_ok {g : Hp} {a : Int} {x : Hd} (h : setE g a x = 0) : PutOk g a x ∧ headE g a = 0 := by
  unfold setE at h
  by_cases h0 : headE g a = 0
  · rw [decide_eq_true h0] at h
    obtain ⟨h1, h2, h3⟩ := headE_of h0
    cases hd : decide (x.May ∧ x.used = true ∧ x.n = (headH g a).n) with
    | false => rw [hd] at h; exact absurd h (by simp)
    | true =>
      obtain ⟨g1, g2, g3⟩ := of_decide_eq_true hd
      rw [headH_yes h0] at g3
      exact ⟨⟨h1, h2, h3, g1, g2, g3⟩, h0⟩
  · rw [decide_eq_false h0] at h
    exact absurd h h0

/-! Fewer caches. -/
theorem mem_flats {L : List Lists} {x : Int} : x ∈ flats L ↔ ∃ l ∈ L, x ∈ l.flat := by unfold flats; exact List.mem_flatMap

theorem listed_free {g : Hp} {l : Lists} {x : Int} (h : listedB g l = true) (hx : x ∈ l.flat) : 0 < roomAt g.pages x ∧ wordAt g x = 0 := by
  unfold listedB at h
  simp only [Bool.and_eq_true, List.all_eq_true] at h
  unfold Lists.flat at hx
  rw [List.mem_append, List.mem_append] at hx
  rcases hx with (hx | hx) | hx
  · have := of_decide_eq_true (h.1 x hx); exact ⟨this.1, this.2.2⟩
  · have := of_decide_eq_true (h.2.1 x hx); exact ⟨this.1, this.2.2⟩
  · have := of_decide_eq_true (h.2.2 x hx); exact ⟨this.1, this.2.2⟩

end Go.Abs

namespace Go.Abs
open Go.Proofs Go.Proofs.YtpkngagppfoccaaGreatDoor
set_option maxRecDepth 8000

theorem light_of {h : Hp} (a : h.free.l0.length ≤ 4000000000) (b : h.free.l1.length ≤ 4000000000) (c : h.free.l2.length ≤ 4000000000) : h.light := by
  unfold Hp.light most
  simp [flats, Lists.flat]
  omega

def fewH (h : Hp) : Bool := decide (h.w.length ≤ 130 ∧ h.pages.length ≤ 9 ∧ h.cards.length ≤ 20 ∧ h.free.l0.length ≤ 70 ∧ h.free.l1.length ≤ 70 ∧ h.free.l2.length ≤ 70)

theorem Few_spec (h : Hp) : Spec X 25 [] [h.tv] (Ret [] (.bo (fewH h))) := by
  refine spec_go X_ok Tryz.f25 (by kernel_rfl) (by kernel_rfl) (by kernel_rfl) fun hb hH => ⟨rfl, ?_⟩
  have ef : fewH h = (decide ((h.w.length : Int) ≤ 130) && (decide ((h.pages.length : Int) ≤ 9) && (decide ((h.cards.length : Int) ≤ 20) && decide (h.free.l0.length ≤ 70 ∧ h.free.l1.length ≤ 70 ∧ h.free.l2.length ≤ 70)))) := by
    unfold fewH
    rw [← Bool.decide_and, ← Bool.decide_and, ← Bool.decide_and, decide_eq_decide]
    omega
  rw [ef]
  have ec : (bif (bif decide ((h.w.length : Int) ≤ 130) then decide ((h.pages.length : Int) ≤ 9) else false) then decide ((h.cards.length : Int) ≤ 20) else false) = (decide ((h.w.length : Int) ≤ 130) && (decide ((h.pages.length : Int) ≤ 9) && decide ((h.cards.length : Int) ≤ 20))) := by
    cases decide ((h.w.length : Int) ≤ 130) <;> cases decide ((h.pages.length : Int) ≤ 9) <;> rfl
  show AIf ((bif (bif decide ((h.w.length : Int) ≤ 130) then decide ((h.pages.length : Int) ≤ 9) else false) then decide ((h.cards.length : Int) ≤ 20) else false) = true ∧ True) _ _
  generalize hcc : (bif (bif decide ((h.w.length : Int) ≤ 130) then decide ((h.pages.length : Int) ≤ 9) else false) then decide ((h.cards.length : Int) ≤ 20) else false) = cc at ec
  refine ⟨fun h1 => ?_, fun h1 => ?_⟩
  · have hh := ec.symm.trans h1.1
    simp only [Bool.and_eq_true] at hh
    rw [hh.1, hh.2.1, hh.2.2]
    show ACall _ _ _ _ _ _
    refine call_ret (Light_spec h.free) rfl ?_
    show ARet _ _ _
    exact ret_d rfl ⟨rfl, rfl⟩
  · have hcf : cc = false := Bool.eq_false_iff.2 fun h' => h1 ⟨h', trivial⟩
    rw [← hcc] at hcf
    show AOb ((bif (bif decide ((h.w.length : Int) ≤ 130) then decide ((h.pages.length : Int) ≤ 9) else false) then decide ((h.cards.length : Int) ≤ 20) else false) = false) _
    refine ⟨hcf, ?_⟩
    show ARet _ _ _
    refine ret_bo (x := false) ?_ ⟨rfl, rfl⟩
    rw [hcc] at hcf
    rw [hcf] at ec
    cases hb1 : decide ((h.w.length : Int) ≤ 130) <;> cases hb2 : decide ((h.pages.length : Int) ≤ 9) <;> cases hb3 : decide ((h.cards.length : Int) ≤ 20) <;> first | rfl | (rw [hb1, hb2, hb3] at ec; exact absurd ec (by decide))

theorem few_light {h : Hp} (hf : fewH h = true) : h.light := by
  have := of_decide_eq_true hf
  exact light_of (by omega) (by omega) (by omega)
end Go.Abs
