/- PrioMean, plainly: each place, on average. -/
import Derived.Test.YtbboklmmnnedjaaVa
set_option linter.unusedVariables false
set_option linter.unusedSimpArgs false
namespace Go.Proofs.Ytbboklmmnnedjaa
open Go.Pr

def ordL (L : List (Nat × Nat)) : List Nat := orderN (abL L) L.length
theorem ord_without {L L' : List (Nat × Nat)} {i : Nat} (hl : L.length = L'.length) (h : ∀ j, j ≠ i → L.getD j (0, 0) = L'.getD j (0, 0)) :
    ((ordL L).filter (fun j => decide (j ≠ i))).map (offL L) = ((ordL L').filter (fun j => decide (j ≠ i))).map (offL L') := by
  refine List.Perm.eq_of_pairwise (le := fun a b => beats a b = true) (fun a b _ _ h1 h2 => (ltT_asymm (a := a) (b := b) h2 h1).elim) ?_ ?_ ?_
  · rw [List.pairwise_map]
    exact (orderN_sorted L _).filter _
  · rw [List.pairwise_map]
    exact (orderN_sorted L' _).filter _
  · have h1 : ((ordL L).filter (fun j => decide (j ≠ i))).map (offL L) = ((ordL L).filter (fun j => decide (j ≠ i))).map (offL L') := by
      refine List.map_congr_left fun j hj => ?_
      have : j ≠ i := by simpa using (List.mem_filter.1 hj).2
      unfold offL
      rw [h j this]
    rw [h1]
    refine (List.Perm.filter _ ?_).map _
    have h2 : (ordL L').Perm (List.range L.length) := by rw [hl]; exact orderN_perm _ _
    exact (orderN_perm _ _).trans h2.symm

theorem filter_split {O : List Nat} {i : Nat} (hn : O.Nodup) (hi : i ∈ O) : O.filter (fun j => decide (j ≠ i)) = O.take (posI i O) ++ O.drop (posI i O + 1) := by
  have h1 := posI_get hi
  have h2 : O = O.take (posI i O) ++ i :: O.drop (posI i O + 1) := by
    obtain ⟨hlt, he⟩ := List.getElem?_eq_some_iff.1 h1
    conv => lhs; rw [← List.take_append_drop (posI i O) O]
    rw [List.drop_eq_getElem_cons hlt, he]
  obtain ⟨A, hA⟩ : ∃ A, A = O.take (posI i O) := ⟨_, rfl⟩
  obtain ⟨B, hB⟩ : ∃ B, B = O.drop (posI i O + 1) := ⟨_, rfl⟩
  rw [← hA, ← hB] at h2 ⊢
  rw [h2] at hn ⊢
  have h3 := List.nodup_append.1 hn
  have h4 := List.nodup_cons.1 h3.2.1
  rw [List.filter_append, List.filter_cons]
  have h5 : A.filter (fun j => decide (j ≠ i)) = A := List.filter_eq_self.2 (fun x hx => by
    simp only [ne_eq, decide_eq_true_eq]
    exact h3.2.2 x hx i List.mem_cons_self)
  have h6 : B.filter (fun j => decide (j ≠ i)) = B := List.filter_eq_self.2 (fun x hx => by
    simp only [ne_eq, decide_eq_true_eq]
    rintro rfl
    exact h4.1 hx)
  rw [h5, h6]
  simp

theorem kept_bar {L : List (Nat × Nat)} {i k : Nat} (hi : i < L.length) (hk : posI i (ordL L) < k) (hkn : k < L.length) :
    ∃ o, (ordL L)[k]? = some o ∧ ((ordL L).filter (fun j => decide (j ≠ i)))[k - 1]? = some o ∧ o ≠ i ∧ o < L.length ∧ beats (offL L i) (offL L o) = true := by
  have hl : (ordL L).length = L.length := orderN_len _ _
  have hn : (ordL L).Nodup := (orderN_perm _ _).nodup_iff.2 List.nodup_range
  have him : i ∈ ordL L := orderN_mem.2 hi
  have hg := posI_get him
  obtain ⟨hq, hqe⟩ := List.getElem?_eq_some_iff.1 hg
  have hko : (ordL L)[k]? = some ((ordL L)[k]'(by omega)) := List.getElem?_eq_getElem (by omega)
  refine ⟨_, hko, ?_, ?_, orderN_mem.1 (List.getElem_mem _), ?_⟩
  · rw [filter_split hn him, List.getElem?_append_right (by rw [List.length_take]; omega), List.length_take, List.getElem?_drop, Nat.min_eq_left (by omega)]
    rw [show posI i (ordL L) + 1 + (k - 1 - posI i (ordL L)) = k by omega]
    exact hko
  · intro hc
    have h1 := List.pairwise_iff_getElem.1 (List.nodup_iff_pairwise_ne.1 hn) (posI i (ordL L)) k hq (by omega) hk
    rw [hqe, hc] at h1
    exact h1 rfl
  · have h1 := List.pairwise_iff_getElem.1 (orderN_sorted L L.length) (posI i (ordL L)) k hq (by rw [orderN_len]; omega) hk
    have h2 : (orderN (abL L) L.length)[posI i (ordL L)]'hq = i := hqe
    rw [h2] at h1
    exact h1

def costOf (den : Nat) (x : Kt) : Nat := den / x.d * x.n
/-- What one place counts for. -/
def gOf (k m den i : Nat) (L : List (Nat × Nat)) : Nat := if posI i (ordL L) < k then costOf den (refOne k m L i) else 0

theorem place_few {k m den i : Nat} {L : List (Nat × Nat)} (hi : i < L.length) (hk : L.length ≤ k) : gOf k m den i L = den * (L.getD i (0, 0)).1 := by
  have hl : (ordL L).length = L.length := orderN_len _ _
  have him : i ∈ ordL L := orderN_mem.2 hi
  have hq := (List.getElem?_eq_some_iff.1 (posI_get him)).1
  unfold gOf
  rw [if_pos (by omega)]
  unfold refOne costOf
  rw [if_neg (by omega)]
  simp

theorem place_many {k m den n i W : Nat} {Ls : Nat → List (Nat × Nat)} (hm : 0 < m) (hm5 : m ≤ 5) (hden : ∀ j, 0 < j → j ≤ m → j ∣ den) (hlen : ∀ d, d < m → (Ls d).length = n) (hi : i < n) (hkn : k < n)
    (hat : ∀ d, d < m → (Ls d).getD i (0, 0) = (W, d)) (heq : ∀ d d', d < m → d' < m → ∀ j, j ≠ i → (Ls d).getD j (0, 0) = (Ls d').getD j (0, 0)) (hok : ∀ d, d < m → ∀ j, j < n → ((Ls d).getD j (0, 0)).1 ≤ 30 ∧ ((Ls d).getD j (0, 0)).2 < m) :
    sumTo m (fun d => gOf k m den i (Ls d)) ≤ m * W * den := by
  by_cases hex : ∃ d, d < m ∧ posI i (ordL (Ls d)) < k
  · obtain ⟨d0, hd0, hp0⟩ := hex
    obtain ⟨o0, ho0, hf0, hne0, hol0, hb0⟩ := kept_bar (by rw [hlen d0 hd0]; exact hi) hp0 (by rw [hlen d0 hd0]; exact hkn)
    obtain ⟨Wb, Db, hbar⟩ : ∃ Wb Db, (Ls d0).getD o0 (0, 0) = (Wb, Db) := ⟨_, _, rfl⟩
    have hbok := hok d0 hd0 o0 (by rw [← hlen d0 hd0]; exact hol0)
    rw [hbar] at hbok
    have hall : ∀ d, d < m → posI i (ordL (Ls d)) < k → refOne k m (Ls d) i = ⟨i, (countN m ⟨W, 0, 0⟩ ⟨Wb, Db, 0⟩).1, (countN m ⟨W, 0, 0⟩ ⟨Wb, Db, 0⟩).2⟩ ∧ Wb * (d + 1) ≤ W * (Db + 1) := by
      intro d hd hp
      obtain ⟨o, ho, hf, hne, hol, hb⟩ := kept_bar (by rw [hlen d hd]; exact hi) hp (by rw [hlen d hd]; exact hkn)
      have hw := ord_without (i := i) ((hlen d hd).trans (hlen d0 hd0).symm) (heq d d0 hd hd0)
      have h1 := congrArg (fun X : List Of => X[k - 1]?) hw
      simp only [List.getElem?_map, hf, hf0, Option.map_some, Option.some.injEq] at h1
      have hoo : offL (Ls d) o = offL (Ls d0) o0 := h1
      have hod : (Ls d).getD o (0, 0) = (Wb, Db) := by
        have h2 := congrArg Of.w hoo
        have h3 := congrArg Of.d hoo
        unfold offL at h2 h3
        simp only [hbar] at h2 h3
        exact Prod.ext h2 h3
      refine ⟨?_, ?_⟩
      · unfold refOne
        rw [if_pos (by rw [hlen d hd]; exact hkn)]
        have h4 : (orderN (abL (Ls d)) (Ls d).length).getD k 0 = o := by
          have : (orderN (abL (Ls d)) (Ls d).length)[k]? = some o := ho
          simp [List.getD, this]
        rw [h4, hod, hat d hd]
      · have h5 : offL (Ls d) i = ⟨W, d, i⟩ := by unfold offL; rw [hat d hd]
        have h6 : offL (Ls d) o = ⟨Wb, Db, o⟩ := by unfold offL; rw [hod]
        rw [h5, h6] at hb
        have h7 : ¬ fr ⟨Wb, Db, o⟩ ⟨W, d, i⟩ := by
          rcases beats_iff.1 hb with h | h
          · exact fr_asymm h
          · exact h.1
        unfold fr at h7
        simp only at h7
        omega
    obtain ⟨cn, hcn⟩ : ∃ c, c = countN m ⟨W, 0, 0⟩ ⟨Wb, Db, 0⟩ := ⟨_, rfl⟩
    have hcnt := cnt_ok (W := W) hm hm5 hbok.1 hbok.2 hden
    rw [← hcn] at hall hcnt
    have hsum : sumTo m (fun d => gOf k m den i (Ls d)) = sumTo m (fun d => if decide (posI i (ordL (Ls d)) < k) then den / cn.2 * cn.1 else 0) := by
      refine sumTo_congr fun d hd => ?_
      unfold gOf
      by_cases hp : posI i (ordL (Ls d)) < k
      · rw [if_pos hp, (hall d hd hp).1, if_pos (by simpa using hp)]
        rfl
      · rw [if_neg hp, if_neg (by simpa using hp)]
    rw [hsum, sumTo_cnt]
    exact place_mean (fun d hd hp => (hall d hd (by simpa using hp)).2) hcnt.cost
  · have h0 : sumTo m (fun d => gOf k m den i (Ls d)) = sumTo m (fun _ => 0) := by
      refine sumTo_congr fun d hd => ?_
      unfold gOf
      rw [if_neg (fun hp => hex ⟨d, hd, hp⟩)]
    rw [h0, sumTo_const]
    simp

end Go.Proofs.Ytbboklmmnnedjaa
