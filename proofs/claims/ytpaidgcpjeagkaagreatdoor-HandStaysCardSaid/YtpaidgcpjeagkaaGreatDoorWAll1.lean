/- Walks: all of any lists. -/
import Derived.Test.YtpaidgcpjeagkaaGreatDoorWLists1
import Derived.Test.YtpaidgcpjeagkaaGreatDoorWClone1
set_option linter.all false
set_option linter.unusedVariables false
set_option linter.unusedSimpArgs false
namespace Go.Abs
open Go.Proofs Go.Proofs.YtpaidgcpjeagkaaGreatDoor
set_option maxRecDepth 8000

def Lists.flat (l : Lists) : List Int := l.l0 ++ l.l1 ++ l.l2
def flats (L : List Lists) : List Int := L.flatMap Lists.flat

theorem flats_take (L : List Lists) (i : Nat) (h : i < L.length) : flats (L.take (i + 1)) = flats (L.take i) ++ (L.getD i default).flat := by
  unfold flats
  rw [List.take_add_one, List.getElem?_eq_getElem h, List.flatMap_append, List.getD_eq_getElem?_getD, List.getElem?_eq_getElem h]
  simp
theorem flats_le (L : List Lists) (i : Nat) : (flats (L.take i)).length ≤ (flats L).length := by
  have : flats L = flats (L.take i) ++ flats (L.drop i) := by
    unfold flats
    rw [← List.flatMap_append, List.take_append_drop]
  rw [this, List.length_append]
  omega

theorem All_spec (L : List Lists) (h : (flats L).length ≤ most) : Spec X 101 [] [.c (.d (.sl .lists L))] (Ret [(0, .data .int (flats L))] (.c (.own 0))) := by
  refine spec_go X_ok Tryz.f101 (by kernel_rfl) (by kernel_rfl) (by kernel_rfl) fun hb _ => ⟨rfl, ?_⟩
  have hmax : L.length ≤ maxN := (hb (.c (.d (.sl .lists L))) (by simp)).1
  show ∃ n, _
  refine ⟨0, ALoop.inv (ι := {i : Nat // i ≤ L.length}) (fun i => ⟨[(3, .c (.own 1)), (6, .c (.d (.sl .lists L))), (7, .int L.length), (8, .int i.1)], [(1, .data .int (flats (L.take i.1)))], 32⟩) (fun i => L.length - i.1) ⟨0, Nat.zero_le _⟩ ?_ ?_⟩
  · exact ⟨[], .cons _ _ _ (.c _ _ (.nilown 1 .int rfl rfl)) (.cons _ _ _ .same (.cons _ _ _ .same (.cons _ _ _ .same .nil))), .new 1 .int _ rfl .nil, rfl⟩
  · rintro ⟨i, hi⟩
    show ABr (decide ((i : Int) < (L.length : Int))) _ _
    refine ⟨fun h2 => ?_, fun h2 => ?_⟩
    · have hlt : i < L.length := by simpa using h2
      have hstep := flats_take L i hlt
      have hle := flats_le L (i + 1)
      have hlen : (flats (L.take (i + 1))).length = (flats (L.take i)).length + (L.getD i default).flat.length := by rw [hstep, List.length_append]
      have hfl : (L.getD i default).flat.length = (L.getD i default).l0.length + (L.getD i default).l1.length + (L.getD i default).l2.length := by simp [Lists.flat]; omega
      show AOb ((0 : Int) ≤ (i : Int) ∧ (i : Int) < (L.length : Int)) _
      refine ⟨by omega, ?_⟩
      show ACall _ _ _ _ _ _
      refine .mk _ (Concat3_spec (L.getD i default).l0 (L.getD i default).l1 (L.getD i default).l2 (by omega)) ?_
      rintro H r ⟨rfl, rfl⟩ _ _
      refine ⟨.inr ⟨rfl, rfl⟩, ?_⟩
      show AOb ((flats (L.take i)).length + (L.getD i default).flat.length ≤ most) _
      refine ⟨by omega, ?_⟩
      show ARound _ _ _ _
      exact ⟨⟨i + 1, hlt⟩, Nat.sub_lt_sub_left hlt (Nat.lt_succ_self i), [(_, 1)], .cons _ _ _ (.c _ _ (.own1 _ _)) (.cons _ _ _ .same (.cons _ _ _ .same (.cons _ _ _ (.int_eq (wrapP (i := i) (by omega))) .nil))), .old 1 _ _ _ _ rfl rfl (.data_eq hstep.symm) .nil, rfl⟩
    · have hge : i = L.length := by simp at h2; omega
      show ARet _ _ _
      refine ⟨[(_, 0)], [(0, .data .int (flats L))], [.c (.own 0)], .cons _ _ _ _ (.c _ _ (.own1 _ _)) .nil, .old 0 _ _ _ _ rfl rfl (.data_eq ?_) .nil, rfl, rfl, rfl⟩
      show flats (L.take i) = flats L
      rw [hge, List.take_length]

theorem at0_get {l : List Int} {i : Nat} (h : i < l.length) : at0 l i = l[i] := by
  unfold at0
  rw [List.getD_eq_getElem?_getD, List.getElem?_eq_getElem h]
  rfl

theorem adj_nodup {l : List Int} (hs : Sorted l 0 l.length) : noAdj l l.length ↔ l.Nodup := by
  unfold List.Nodup
  rw [List.pairwise_iff_getElem]
  constructor
  · intro h i j hi hj hij
    have h1 := h i (by omega)
    have h2 := hs i (i + 1) (Nat.zero_le _) (by omega) (by omega)
    have h3 : at0 l (i + 1) ≤ at0 l j := by
      by_cases e : i + 1 = j
      · subst e; exact Int.le_refl _
      · exact hs (i + 1) j (Nat.zero_le _) (by omega) hj
    rw [← at0_get hi, ← at0_get hj]
    omega
  · intro h i hi
    rw [at0_get (by omega), at0_get hi]
    exact h i (i + 1) (by omega) hi (by omega)

theorem Apart_of (L : List Lists) (h : (flats L).length ≤ most) (hs : Spec X 102 (hp16 (flats L)) [.c (.own 16)] (SortQ (flats L) 0 (flats L).length)) : Spec X 81 [] [.c (.d (.sl .lists L))] (Ret [] (.bo (decide (flats L).Nodup))) := by
  refine spec_go X_ok Tryz.f81 (by kernel_rfl) (by kernel_rfl) (by kernel_rfl) fun hb _ => ⟨rfl, ?_⟩
  show ACall _ _ _ _ _ _
  refine .mk _ (All_spec L h) ?_
  rintro H r ⟨rfl, rfl⟩ _ _
  refine ⟨.inl rfl, ?_⟩
  show ACall _ _ _ _ _ _
  refine .hand [(_, 16)] (hp16 (flats L)) [.c (.own 16)] _ (.cons _ _ _ _ (.c _ _ (.own1 _ _)) .nil) (.old 16 _ _ _ _ rfl rfl (.data_eq rfl) .nil) rfl hs ?_
  rintro H r ⟨rfl, l', rfl, hsr, hso⟩ _ _
  refine ⟨rfl, .inr ⟨rfl, rfl⟩, ?_⟩
  show ACall _ _ _ _ _ _
  refine .hand [(_, 16)] (hp16 l') [.c (.own 16)] _ (.cons _ _ _ _ (.c _ _ (.own1 _ _)) .nil) (.old 16 _ _ _ _ rfl rfl (.data_eq rfl) .nil) rfl (Compact_spec l') ?_
  rintro H r ⟨m, n, rfl, rfl, hnm, hml, hiff⟩ _ _
  refine ⟨rfl, .inr ⟨rfl, rfl⟩, ?_⟩
  show ARet _ _ _
  refine ret_bo (x := decide ((n : Int) = ((flats L).length : Int))) ?_ ⟨rfl, rfl⟩
  have hl : l'.length = (flats L).length := hsr.len
  rw [← hl] at hso
  have key : n = l'.length ↔ (flats L).Nodup := hiff.trans ((adj_nodup hso).trans hsr.perm.nodup_iff)
  rw [decide_eq_decide, ← key]
  omega

theorem Apart12_spec (L : List Lists) (h : (flats L).length ≤ 12) : Spec X 81 [] [.c (.d (.sl .lists L))] (Ret [] (.bo (decide (flats L).Nodup))) :=
  Apart_of L (by unfold most; omega) (Sort12_spec (flats L) h)
end Go.Abs

namespace Go.Abs
open Go.Proofs Go.Proofs.YtpaidgcpjeagkaaGreatDoor
set_option maxRecDepth 8000

theorem ArgLe.lists {cs : List CV} {t : Lists} (h : EK.fit .lists cs = some t) : ArgLe (.agg cs) t.tv := .fit .lists cs t h

def l161820 : Lists := ⟨[16, 18, 20], [], []⟩

end Go.Abs
