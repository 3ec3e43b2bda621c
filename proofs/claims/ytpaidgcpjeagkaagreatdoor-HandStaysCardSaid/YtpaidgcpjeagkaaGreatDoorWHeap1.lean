/- Walks: what a heap is, and whether nothing is lost of it. -/
import Derived.Test.YtpaidgcpjeagkaaGreatDoorWArena1
import Derived.Test.YtpaidgcpjeagkaaGreatDoorWCells1
import Derived.Test.YtpaidgcpjeagkaaGreatDoorWRAll
set_option linter.all false
set_option linter.unusedVariables false
set_option linter.unusedSimpArgs false
namespace Go.Abs
open Go.Proofs Go.Proofs.YtpaidgcpjeagkaaGreatDoor
set_option maxRecDepth 8000

def shapedH (h : Hp) : Bool := mayW h.w && (mayP h.pages && decide (h.w.length = 16 * h.pages.length ∧ h.cards.length = 2 * h.pages.length))
def wordAt (h : Hp) (a : Int) : Int := at0 h.w (a - 16).toNat
def pageAt (h : Hp) (a : Int) : Page := h.pages.getD (a / 16 - 1).toNat default
def fitsB (p : Page) (n : Int) : Bool := bif decide (p.kind = 2) then decide (runE n = 0 ∧ runOf n = p.arg) else decide (clsE n = 0 ∧ clsOf n = p.arg)
/-- Is a cell that is told of as free one? -/
def freeB (h : Hp) (c a : Int) : Bool := decide (0 < roomAt h.pages a ∧ pageAt h a = ⟨1, c⟩ ∧ wordAt h a = 0)
def listedB (h : Hp) (l : Lists) : Bool := l.l0.all (freeB h 0) && (l.l1.all (freeB h 1) && l.l2.all (freeB h 2))
/-- May a cell's first word be? -/
def cellB (h : Hp) (a : Int) : Bool := isHd (wordAt h a) && (bif (unp (wordAt h a)).used then fitsB (pageAt h a) (unp (wordAt h a)).n else decide ((pageAt h a).kind = 1))
abbrev lsts (h : Hp) (cs : List Lists) : List Lists := h.free :: cs
def mayH (h : Hp) (cs : List Lists) : Bool := shapedH h && ((h.free :: cs).all (listedB h) && ((cellStarts h.pages).all (cellB h) && decide (flats (h.free :: cs)).Nodup))
def wholeH (h : Hp) (cs : List Lists) : Bool := mayH h cs && (cellStarts h.pages).all fun a => wordAt h a != 0 || (flats (h.free :: cs)).contains a

/-- An address of a word. -/
def adr (h : Hp) (a : Int) : Prop := 16 ≤ a ∧ a < 16 * ((h.pages.length : Int) + 1)

theorem shapedH_of {h : Hp} (hs : shapedH h = true) : mayW h.w = true ∧ mayP h.pages = true ∧ h.w.length = 16 * h.pages.length ∧ h.cards.length = 2 * h.pages.length ∧ 1 ≤ h.pages.length ∧ h.pages.length ≤ 64 := by
  unfold shapedH at hs
  simp only [Bool.and_eq_true, decide_eq_true_eq] at hs
  have := (mayP_ok hs.2.1).2
  exact ⟨hs.1, hs.2.1, hs.2.2.1, hs.2.2.2, this.1, this.2⟩

theorem room_adr {h : Hp} {a : Int} (hr : roomAt h.pages a ≠ 0) : adr h a := by
  obtain ⟨_, i, hi⟩ := cellOf_mem (roomAt_pos hr)
  have h1 := hi.lo
  have h2 := hi.hi
  have h3 := hi.lt
  simp only at h1 h2
  exact ⟨by omega, by omega⟩

theorem wlen {l : List Int} (h : l.length ≤ maxN) : (l.length : Int) < 140737488355329 := by unfold maxN at h; omega

theorem word_spec (h : Hp) (a : Int) (hs : h.w.length = 16 * h.pages.length) (ha : adr h a) : Spec X 65 [] [h.tv, .int a] (Ret [] (.int (wordAt h a))) := by
  refine spec_go X_ok Tryz.f65 (by kernel_rfl) (by kernel_rfl) (by kernel_rfl) fun hb hH => ⟨rfl, ?_⟩
  obtain ⟨h1, h2⟩ := ha
  have hla : h.w.length ≤ maxN := ((hb (h.tv) (by simp)) (.d (.sl .int h.w)) (by simp [Hp.enc])).1
  have hl := wlen hla
  have ew : IntKind.i64.wrap (a - 16) = a - 16 := wrap64 (by omega) (by omega)
  show AOb ((0 : Int) ≤ IntKind.i64.wrap (a - 16) ∧ IntKind.i64.wrap (a - 16) < (h.w.length : Int)) _
  rw [ew]
  refine ⟨by omega, ?_⟩
  show ARet _ _ _
  exact ret_d rfl ⟨rfl, rfl⟩

theorem page_spec (h : Hp) (a : Int) (hs : h.w.length = 16 * h.pages.length) (ha : adr h a) : Spec X 76 [] [h.tv, .int a] (Ret [] (.dagg (EK.enc .page (pageAt h a)))) := by
  refine spec_go X_ok Tryz.f76 (by kernel_rfl) (by kernel_rfl) (by kernel_rfl) fun hb hH => ⟨rfl, ?_⟩
  obtain ⟨h1, h2⟩ := ha
  have hla : h.w.length ≤ maxN := ((hb (h.tv) (by simp)) (.d (.sl .int h.w)) (by simp [Hp.enc])).1
  have hl := wlen hla
  have e1 : tdv a 16 = a / 16 := tdv_eq (by omega) (by omega) (by omega)
  have ew : IntKind.i64.wrap (tdv a 16 - 1) = a / 16 - 1 := by rw [e1]; exact wrap64 (by omega) (by omega)
  show AOb _ _
  refine ⟨by decide, ?_⟩
  show AOb ((0 : Int) ≤ IntKind.i64.wrap (tdv a 16 - 1) ∧ IntKind.i64.wrap (tdv a 16 - 1) < (h.pages.length : Int)) _
  refine ⟨by rw [ew]; omega, ?_⟩
  show ARet _ _ [.agg [.d (DV.int (h.pages.getD (IntKind.i64.wrap (tdv a 16 - 1)).toNat default).kind), .d (DV.int (h.pages.getD (IntKind.i64.wrap (tdv a 16 - 1)).toNat default).arg)]]
  rw [ew]
  exact ret_d rfl ⟨rfl, rfl⟩

theorem decide_and' {p q : Prop} [Decidable p] [Decidable q] : decide (p ∧ q) = (decide p && decide q) := by simp

theorem len8 (n : Nat) (h : n ≤ maxN) : tdv (n : Int) 8 = ((n / 8 : Nat) : Int) := len_quo n 8 h

theorem shaped_spec (h : Hp) : Spec X 74 [] [h.tv] (Ret [] (.bo (shapedH h))) := by
  refine spec_go X_ok Tryz.f74 (by kernel_rfl) (by kernel_rfl) (by kernel_rfl) fun hb hH => ⟨rfl, ?_⟩
  have hla : h.w.length ≤ maxN := ((hb (h.tv) (by simp)) (.d (.sl .int h.w)) (by simp [Hp.enc])).1
  have hlp : h.pages.length ≤ maxN := ((hb (h.tv) (by simp)) (.d (.sl .page h.pages)) (by simp [Hp.enc])).1
  have hlc : h.cards.length ≤ maxN := ((hb (h.tv) (by simp)) (.d (.sl .bool h.cards)) (by simp [Hp.enc])).1
  have w1 := wlen hla
  have w2 : IntKind.i64.wrap (16 * (h.pages.length : Int)) = 16 * (h.pages.length : Int) := wrap64 (by omega) (by unfold maxN at hlp; omega)
  have w3 := len8 h.w.length hla
  show ACall _ _ _ _ _ _
  refine call_ret (aMay_spec h.w) rfl ?_
  show AIf (mayW h.w = true ∧ True) _ _
  refine ⟨fun h1 => ?_, fun h1 => ?_⟩
  · show ACall _ _ _ _ _ _
    refine call_ret (pMay_spec h.pages) rfl ?_
    show AOb _ _
    refine ⟨by simp, ?_⟩
    show ARet _ _ _
    refine ret_bo (x := bif (bif mayP h.pages then (h.w.length : Int) == IntKind.i64.wrap (16 * (h.pages.length : Int)) else false) then (h.cards.length : Int) == tdv (h.w.length : Int) 8 else false) ?_ ⟨rfl, rfl⟩
    rw [w2, w3]
    unfold shapedH
    rw [h1.1]
    have hw := of_decide_eq_true h1.1
    cases mayP h.pages with
    | false => rfl
    | true =>
      simp only [cond_true, Bool.true_and, decide_and']
      by_cases e1 : h.w.length = 16 * h.pages.length
      · have e2 : ((h.w.length : Int) == 16 * (h.pages.length : Int)) = true := by rw [beq_iff_eq]; omega
        rw [e2, decide_eq_true e1]
        by_cases e3 : h.cards.length = 2 * h.pages.length
        · rw [decide_eq_true e3]; simp; omega
        · rw [decide_eq_false e3]; simp; omega
      · have e2 : ((h.w.length : Int) == 16 * (h.pages.length : Int)) = false := by rw [beq_eq_false_iff_ne]; omega
        rw [e2, decide_eq_false e1]
        rfl
  · have h1 : mayW h.w = false := Bool.eq_false_iff.2 fun h' => h1 ⟨h', trivial⟩
    show AOb (mayW h.w = false) _
    refine ⟨h1, ?_⟩
    show AOb _ _
    refine ⟨by simp, ?_⟩
    show ARet _ _ _
    refine ret_bo (x := false) ?_ ⟨rfl, rfl⟩
    unfold shapedH
    rw [h1]
    rfl

theorem fits_spec (p : Page) (n : Int) (hn : n ≤ 9223372036854775807) : Spec X 77 [] [.dagg (EK.enc .page p), .int n] (Ret [] (.bo (fitsB p n))) := by
  refine spec_go X_ok Tryz.f77 (by kernel_rfl) (by kernel_rfl) (by kernel_rfl) fun hb hH => ⟨rfl, ?_⟩
  unfold fitsB
  show ABr (decide (p.kind = 2)) _ _
  refine ⟨fun h => ?_, fun h => ?_⟩
  · rw [h]
    show ACall _ _ _ _ _ _
    refine call_ret (cRun_spec n hn) rfl ?_
    show ARet _ _ _
    refine ret_bo (x := bif decide (runE n = 0) then decide (runOf n = p.arg) else false) ?_ ⟨rfl, rfl⟩
    rw [cond_true, decide_and']
    cases decide (runE n = 0) <;> rfl
  · rw [h]
    show ACall _ _ _ _ _ _
    refine call_ret (cOf_spec n) rfl ?_
    show ARet _ _ _
    refine ret_bo (x := bif decide (clsE n = 0) then decide (clsOf n = p.arg) else false) ?_ ⟨rfl, rfl⟩
    rw [cond_false, decide_and']
    cases decide (clsE n = 0) <;> rfl

theorem page_eq (p : Page) (k c : Int) : (p.kind == k && (p.arg == c && true)) = decide (p = ⟨k, c⟩) := by
  obtain ⟨a, b⟩ := p
  by_cases h1 : a = k <;> by_cases h2 : b = c <;> simp [h1, h2]

/-! A cell that is told of as free. -/
theorem listed1_spec (h : Hp) (c a : Int) (hs : shapedH h = true) : Spec X 97 [] (.int a :: capT [.rp h.enc, .rp [DV.int c]]) (Ret [] (.bo (freeB h c a))) := by
  obtain ⟨_, _, hsl, _⟩ := shapedH_of hs
  refine spec_go X_ok Tryz.f97 (by kernel_rfl) (by kernel_rfl) (by kernel_rfl) fun hb hH => ⟨rfl, ?_⟩
  show ADCall _ _ _ _ _ _
  refine .mk _ _ (Room_spec h.pages a) rfl ?_
  unfold freeB
  show ABr (decide (roomAt h.pages a > 0)) _ _
  refine ⟨fun h1 => ?_, fun h1 => ?_⟩
  · have h1 : 0 < roomAt h.pages a := of_decide_eq_true h1
    have had := room_adr (h := h) (a := a) (by omega)
    show ADCall _ _ _ _ _ _
    refine .mk _ _ (page_spec h a hsl had) rfl ?_
    show ABr ((pageAt h a).kind == 1 && ((pageAt h a).arg == c && true)) _ _
    rw [page_eq]
    refine ⟨fun h2 => ?_, fun h2 => ?_⟩
    · show ADCall _ _ _ _ _ _
      refine .mk _ _ (word_spec h a hsl had) rfl ?_
      show ARet _ _ _
      refine ret_bo (x := wordAt h a == 0) ?_ ⟨rfl, rfl⟩
      have h2 := of_decide_eq_true h2
      by_cases h3 : wordAt h a = 0 <;> simp [h1, h2, h3]
    · show ARet _ _ _
      refine ret_bo (x := false) ?_ ⟨rfl, rfl⟩
      have h2 := of_decide_eq_false h2
      simp [h2]
  · have h1 := of_decide_eq_false h1
    show ABr _ _ _
    refine ⟨fun h => absurd h (by decide), fun _ => ?_⟩
    show ARet _ _ _
    refine ret_bo (x := false) ?_ ⟨rfl, rfl⟩
    have h2 : ¬ 0 < roomAt h.pages a := by omega
    simp [h2]

theorem listed_spec (g : Hp) (l : Lists) (hs : shapedH g = true) : Spec X 78 [] [g.tv, l.tv] (Ret [] (.bo (listedB g l))) := by
  refine spec_go X_ok Tryz.f78 (by kernel_rfl) (by kernel_rfl) (by kernel_rfl) fun hb hH => ⟨rfl, ?_⟩
  unfold listedB
  show ∃ n, _
  refine ⟨4, ?_⟩
  show ALoop _ _ _ _
  refine .next ?_
  show ABr _ _ _
  refine ⟨fun _ => ?_, fun h => absurd h (by decide)⟩
  show AOb _ _
  refine ⟨by decide, ?_⟩
  show ACall _ _ _ _ _ _
  refine call_ret (every_spec l.l0 97 [.rp g.enc, .rp [DV.int 0]] (freeB g 0) (fun x _ => listed1_spec g 0 x hs)) rfl ?_
  show ABr (!l.l0.all (freeB g 0)) _ _
  refine ⟨fun h => ?_, fun h => ?_⟩
  · have h0 : l.l0.all (freeB g 0) = false := by simpa using h
    rw [h0]
    show ARet _ _ _
    exact ret_d rfl ⟨rfl, rfl⟩
  have h0 : l.l0.all (freeB g 0) = true := by simpa using h
  rw [h0]
  show ALoop _ _ _ _
  refine .next ?_
  show ABr _ _ _
  refine ⟨fun _ => ?_, fun h => absurd h (by decide)⟩
  show AOb _ _
  refine ⟨by decide, ?_⟩
  show ACall _ _ _ _ _ _
  refine call_ret (every_spec l.l1 97 [.rp g.enc, .rp [DV.int 1]] (freeB g 1) (fun x _ => listed1_spec g 1 x hs)) rfl ?_
  show ABr (!l.l1.all (freeB g 1)) _ _
  refine ⟨fun h => ?_, fun h => ?_⟩
  · have h1 : l.l1.all (freeB g 1) = false := by simpa using h
    rw [h1]
    show ARet _ _ _
    exact ret_d rfl ⟨rfl, rfl⟩
  have h1 : l.l1.all (freeB g 1) = true := by simpa using h
  rw [h1]
  show ALoop _ _ _ _
  refine .next ?_
  show ABr _ _ _
  refine ⟨fun _ => ?_, fun h => absurd h (by decide)⟩
  show AOb _ _
  refine ⟨by decide, ?_⟩
  show ACall _ _ _ _ _ _
  refine call_ret (every_spec l.l2 97 [.rp g.enc, .rp [DV.int 2]] (freeB g 2) (fun x _ => listed1_spec g 2 x hs)) rfl ?_
  show ABr (!l.l2.all (freeB g 2)) _ _
  refine ⟨fun h => ?_, fun h => ?_⟩
  · have h2 : l.l2.all (freeB g 2) = false := by simpa using h
    rw [h2]
    show ARet _ _ _
    exact ret_d rfl ⟨rfl, rfl⟩
  have h2 : l.l2.all (freeB g 2) = true := by simpa using h
  rw [h2]
  show ALoop _ _ _ _
  refine .next ?_
  show ABr _ _ _
  refine ⟨fun h => absurd h (by decide), fun _ => ?_⟩
  show ARet _ _ _
  exact ret_d rfl ⟨rfl, rfl⟩

theorem unp_n (w : Int) : (unp w).n ≤ 63 := by
  unfold unp
  split
  · rename_i h; exact (may_range h).1.2
  · decide

theorem cell1_spec (h : Hp) (a : Int) (hs : shapedH h = true) (ha : adr h a) : Spec X 75 [] (.int a :: capT [.rp h.enc]) (Ret [] (.bo (cellB h a))) := by
  obtain ⟨_, _, hsl, _⟩ := shapedH_of hs
  refine spec_go X_ok Tryz.f75 (by kernel_rfl) (by kernel_rfl) (by kernel_rfl) fun hb hH => ⟨rfl, ?_⟩
  show ACall _ _ _ _ _ _
  refine call_ret (word_spec h a hsl ha) rfl ?_
  show ACall _ _ _ _ _ _
  refine call_ret (hUnpack_spec (wordAt h a)) rfl ?_
  show ACall _ _ _ _ _ _
  refine call_ret (page_spec h a hsl ha) rfl ?_
  have hn := unp_n (wordAt h a)
  unfold cellB
  generalize hu : unp (wordAt h a) = u at hn
  show AIf (u.used = true ∧ (bif !u.used then (pageAt h a).kind == 1 else false) = false ∧ isHd (wordAt h a) = true ∧ True) _ _
  refine ⟨fun h1 => ?_, fun h1 => ?_⟩
  · show ACall _ _ _ _ _ _
    refine call_ret (fits_spec (pageAt h a) u.n (by omega)) rfl ?_
    show ARet _ _ _
    refine ret_bo (x := bif isHd (wordAt h a) then (bif (bif !u.used then (pageAt h a).kind == 1 else false) then true else fitsB (pageAt h a) u.n) else false) ?_ ⟨rfl, rfl⟩
    rw [h1.2.2.1, h1.1]
    rfl
  · show AOb _ _
    refine ⟨by exact fun ⟨g1, g2, _⟩ => Bool.eq_false_iff.2 fun g3 => h1 ⟨g3, g1, g2, trivial⟩, ?_⟩
    show ARet _ _ _
    refine ret_bo (x := bif isHd (wordAt h a) then (bif (bif !u.used then (pageAt h a).kind == 1 else false) then true else false) else false) ?_ ⟨rfl, rfl⟩
    cases hi : isHd (wordAt h a) with
    | false => rfl
    | true =>
      cases hud : u.used with
      | true => exact absurd ⟨hud, by rw [hud]; rfl, hi, trivial⟩ h1
      | false =>
        simp only [cond_true, cond_false, Bool.true_and, Bool.not_false]
        by_cases hk : (pageAt h a).kind = 1 <;> simp [hk]

theorem start_adr {h : Hp} {a : Int} (ha : a ∈ cellStarts h.pages) : adr h a := room_adr (mem_starts.1 ha)

theorem hHMay_spec (g : Hp) (cs : List Lists) (hm : (flats (lsts g cs)).length ≤ most) (hc : cs.length < most) : Spec X 62 [] [g.tv, .c (.d (.sl .lists cs))] (Ret [] (.bo (mayH g cs))) := by
  refine spec_go X_ok Tryz.f62 (by kernel_rfl) (by kernel_rfl) (by kernel_rfl) fun hb hH => ⟨rfl, ?_⟩
  unfold mayH
  show ACall _ _ _ _ _ _
  refine call_ret (shaped_spec g) rfl ?_
  show ABr (!shapedH g) _ _
  refine ⟨fun h => ?_, fun h => ?_⟩
  · have hs : shapedH g = false := by simpa using h
    rw [hs]
    show ARet _ _ _
    exact ret_d rfl ⟨rfl, rfl⟩
  have hs : shapedH g = true := by simpa using h
  rw [hs]
  show AOb (1 + cs.length ≤ most) _
  refine ⟨by omega, ?_⟩
  obtain ⟨L, hL⟩ : ∃ L : List Lists, L = g.free :: cs := ⟨_, rfl⟩
  have hlen : L.length ≤ most := by rw [hL, List.length_cons]; omega
  unfold most at hlen
  show ∃ n, _
  refine ⟨0, ALoop.inv (ι := {i : Nat // i ≤ L.length ∧ L.all (listedB g) = (L.drop i).all (listedB g)}) (fun i => ⟨[(2, .c (.d (.rp g.enc))), (5, .c (.d (.fn 75 [] [.rp g.enc]))), (6, .c (.d (.sl .lists L))), (18, .c (.d (.sl .lists L))), (19, .int L.length), (20, .int i.1)], [], 32⟩) (fun i => L.length - i.1) ⟨0, Nat.zero_le _, by rw [List.drop_zero]⟩ ?_ ?_⟩
  · exact ⟨[], .cons _ _ _ (.c _ _ (.frz _ _ rfl)) (.cons _ _ _ (.c _ _ (.frz _ _ rfl)) (.cons _ _ _ (.frz rfl hL.symm) (.cons _ _ _ (.frz rfl hL.symm) (.cons _ _ _ (.int_eq (by rw [hL]; rfl)) (.cons _ _ _ .same .nil))))), .nil, rfl⟩
  · rintro ⟨i, hi, he⟩
    have hLe : (g.free :: cs).all (listedB g) = L.all (listedB g) := by rw [hL]
    show ABr (decide ((i : Int) < (L.length : Int))) _ _
    refine ⟨fun h => ?_, fun h => ?_⟩
    · have hlt : i < L.length := by simpa using h
      have he : L.all (listedB g) = (listedB g (L.getD i default) && (L.drop (i + 1)).all (listedB g)) := by
        rw [he, List.drop_eq_getElem_cons hlt, List.all_cons, List.getD_eq_getElem?_getD, List.getElem?_eq_getElem hlt]
        rfl
      show AOb ((0 : Int) ≤ (i : Int) ∧ (i : Int) < (L.length : Int)) _
      refine ⟨by omega, ?_⟩
      show ACall _ _ _ _ _ _
      refine call_ret (listed_spec g (L.getD i default) hs) rfl ?_
      show ABr (!listedB g (L.getD i default)) _ _
      refine ⟨fun h => ?_, fun h => ?_⟩
      · have hf : listedB g (L.getD i default) = false := by simpa using h
        show ARet _ _ _
        refine ret_bo (x := false) ?_ ⟨rfl, rfl⟩
        rw [hLe, he, hf]
        rfl
      · have hf : listedB g (L.getD i default) = true := by simpa using h
        show ARound _ _ _ _
        exact ⟨⟨i + 1, hlt, by rw [he, hf, Bool.true_and]⟩, by show L.length - (i + 1) < L.length - i; omega, [], .cons _ _ _ .same (.cons _ _ _ .same (.cons _ _ _ .same (.cons _ _ _ .same (.cons _ _ _ .same (.cons _ _ _ (.int_eq (wrapP (i := i) (by unfold maxN; omega))) .nil))))), .nil, rfl⟩
    · have hge : i = L.length := by simp at h; omega
      rw [hge, List.drop_length] at he
      have hall : (g.free :: cs).all (listedB g) = true := by rw [hLe, he]; rfl
      show ACall _ _ _ _ _ _
      refine .mk _ (cAll_spec g.pages) fun H r ⟨eH, er⟩ _ _ => ⟨.inl rfl, ?_⟩
      subst eH er
      show ACall _ _ _ _ _ _
      refine call_ret (every_spec (cellStarts g.pages) 75 [.rp g.enc] (cellB g) (fun x hx => cell1_spec g x hs (start_adr hx))) rfl ?_
      show AIf ((cellStarts g.pages).all (cellB g) = true ∧ True) _ _
      refine ⟨fun h1 => ?_, fun h1 => ?_⟩
      · show ACall _ _ _ _ _ _
        refine call_ret (Apart_spec L (by rw [hL]; exact hm)) rfl ?_
        show ARet _ _ _
        refine ret_bo (x := decide (flats L).Nodup) ?_ ⟨rfl, rfl⟩
        rw [hall, h1.1, hL]
        rfl
      · have h1 : (cellStarts g.pages).all (cellB g) = false := Bool.eq_false_iff.2 fun h' => h1 ⟨h', trivial⟩
        show AOb ((cellStarts g.pages).all (cellB g) = false) _
        refine ⟨h1, ?_⟩
        show ARet _ _ _
        refine ret_bo (x := false) ?_ ⟨rfl, rfl⟩
        rw [hall, h1]
        rfl
end Go.Abs

namespace Go.Abs
open Go.Proofs Go.Proofs.YtpaidgcpjeagkaaGreatDoor
set_option maxRecDepth 8000

/-- A map of which these are the keys, each with true. -/
def mset (l : List Int) : List (Int × CV) := l.foldl (fun m k => mput m k (.d (DV.bo true))) []
def msetB (l : List Int) : List (Int × Bool) := (mset l).map fun p => (p.1, true)

def allT (m : List (Int × CV)) : Prop := ∀ p ∈ m, p.2 = .d (DV.bo true)

theorem mput_allT {m : List (Int × CV)} {n : Int} (h : allT m) : allT (mput m n (.d (DV.bo true))) := by
  induction m with
  | nil => intro p hp; simp [mput] at hp; rw [hp]
  | cons q r ih =>
    obtain ⟨k, y⟩ := q
    simp only [mput]
    by_cases hk : (n == k) = true
    · rw [hk]
      intro p hp
      rcases List.mem_cons.1 hp with rfl | hp
      · rfl
      · exact h p (List.mem_cons_of_mem _ hp)
    · rw [Bool.eq_false_iff.2 hk]
      intro p hp
      rcases List.mem_cons.1 hp with rfl | hp
      · exact h _ (List.mem_cons_self ..)
      · exact ih (fun p hp => h p (List.mem_cons_of_mem _ hp)) p hp

theorem mset_snoc (l : List Int) (n : Int) : mset (l ++ [n]) = mput (mset l) n (.d (DV.bo true)) := by unfold mset; rw [List.foldl_append]; rfl

theorem mset_allT (l : List Int) : allT (mset l) := by
  unfold mset
  suffices ∀ m, allT m → allT (l.foldl (fun m k => mput m k (.d (DV.bo true))) m) from this [] (fun p hp => by cases hp)
  induction l with
  | nil => intro m h; exact h
  | cons x r ih => intro m h; exact ih _ (mput_allT h)

theorem toB_allT {m : List (Int × CV)} (h : allT m) : toB m = some (m.map fun p => (p.1, true)) := by
  induction m with
  | nil => rfl
  | cons q r ih =>
    obtain ⟨k, y⟩ := q
    have hy : y = .d (DV.bo true) := h (k, y) (List.mem_cons_self ..)
    subst hy
    simp only [toB, ih (fun p hp => h p (List.mem_cons_of_mem _ hp)), List.map_cons]
    rfl

theorem toB_mset (l : List Int) : toB (mset l) = some (msetB l) := toB_allT (mset_allT l)
theorem mset_isD (l : List Int) : (mset l).all (fun p => isD p.2) = true := List.all_eq_true.2 fun p hp => by rw [mset_allT l p hp]; rfl

theorem mput_isD (l : List Int) (n : Int) (b : Bool) : (mput (mset l) n (.d (DV.bo true))).all (fun p => isD p.2) = true := by rw [← mset_snoc]; exact mset_isD _
theorem LeB.map_eq {ρ : List (Nat × Nat)} {h h' : Heap} {l m : List (Int × CV)} (e : l = m) (h1 : l.all (fun p => isD p.2) = true) : LeB ρ h h' (.map l) (.map m) := by subst e; exact .map l h1

theorem mgetB_put {m : List (Int × CV)} (n a : Int) (x : CV) : mgetB ((mput m n x).map fun p => (p.1, true)) a = (a == n || mgetB (m.map fun p => (p.1, true)) a) := by
  induction m with
  | nil => simp [mput, mgetB]
  | cons q r ih =>
    obtain ⟨k, y⟩ := q
    simp only [mput]
    by_cases hk : n = k
    · subst hk
      by_cases ha : a = n <;> simp [mgetB, ha]
    · have hk' : (n == k) = false := by simp [hk]
      rw [hk']
      simp only [cond_false, List.map_cons, mgetB, ih]
      by_cases ha : a = k
      · subst ha
        simp
      · have ha' : (a == k) = false := by simp [ha]
        rw [ha']
        rfl

theorem mgetB_mset (l : List Int) (a : Int) : mgetB (msetB l) a = l.contains a := by
  unfold msetB mset
  suffices ∀ m, mgetB ((l.foldl (fun m k => mput m k (.d (DV.bo true))) m).map fun p => (p.1, true)) a = (mgetB (m.map fun p => (p.1, true)) a || l.contains a) from by
    rw [this]; simp [mgetB]
  induction l with
  | nil => intro m; simp
  | cons x r ih =>
    intro m
    rw [List.foldl_cons, ih, mgetB_put]
    rw [List.contains_cons]
    cases (a == x) <;> cases mgetB (m.map fun p => (p.1, true)) a <;> rfl

/-- A call whose arguments, frozen, are these. -/
theorem ACall.mk' {f : Nat} {args args' : List TV} {h : Heap} {base : Nat} {k : TV → Heap → Prop} {r : TV} (he : args.map (lendT h) = args') (hT : Spec X f [] args' (Ret [] r)) (hl : scalT 8 r = true) (hk : k (shT base 8 r) []) : ACall X f args h base k :=
  call_ret (by rw [he]; exact hT) (by rw [hl, Bool.or_true]) hk

end Go.Abs
