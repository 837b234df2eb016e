/- What Close tells is what the document's Close tells: plainly. -/
import Derived.Test.YtbboklmmnnedjaaUh
import Derived.Test.YtbboklmmnnedjaaQe
set_option linter.unusedVariables false
set_option linter.unusedSimpArgs false
namespace Go.Proofs.Ytbboklmmnnedjaa
open Go.Pr

def offL (L : List (Nat × Nat)) (i : Nat) : Of := ⟨(L.getD i (0, 0)).1, (L.getD i (0, 0)).2, i⟩
theorem abL_fr (L : List (Nat × Nat)) (i j : Nat) : abL L i j = true ↔ fr (offL L i) (offL L j) := fr_iff (a := offL L i) (b := offL L j)
theorem ord_sorted (L : List (Nat × Nat)) (i : Nat) : ∀ O : List Nat, (∀ x ∈ O, x < i) → O.Pairwise (fun a b => beats (offL L a) (offL L b) = true) → (ordI (abL L) i O).Pairwise (fun a b => beats (offL L a) (offL L b) = true)
  | [], _, _ => by simp [ordI]
  | j :: R, hlt, hs => by
    have hj := List.pairwise_cons.1 hs
    unfold ordI
    by_cases h : abL L i j = true
    · rw [if_pos h]
      have hij : beats (offL L i) (offL L j) = true := beats_iff.2 (.inl ((abL_fr L i j).1 h))
      refine List.pairwise_cons.2 ⟨fun x hx => ?_, hs⟩
      rcases List.mem_cons.1 hx with rfl | hx
      · exact hij
      · exact lt_trans (a := offL L x) (b := offL L j) (c := offL L i) (hj.1 x hx) hij
    · rw [if_neg h]
      refine List.pairwise_cons.2 ⟨fun x hx => ?_, ord_sorted L i R (fun x hx => hlt x (List.mem_cons_of_mem _ hx)) hj.2⟩
      rcases List.mem_cons.1 ((ordI_perm (abL L) i R).mem_iff.1 hx) with rfl | hx
      · exact beats_iff.2 (.inr ⟨fun hc => h ((abL_fr L x j).2 hc), hlt j List.mem_cons_self⟩)
      · exact hj.1 x hx
theorem orderN_sorted (L : List (Nat × Nat)) : ∀ n, (orderN (abL L) n).Pairwise (fun a b => beats (offL L a) (offL L b) = true)
  | 0 => List.Pairwise.nil
  | n + 1 => ord_sorted L n _ (fun x hx => orderN_mem.1 hx) (orderN_sorted L n)

theorem sortT : ∀ R : List Of, (R.map Of.p).Nodup → ∃ R', R'.Perm R ∧ SortedT R'
  | [], _ => ⟨[], List.Perm.refl _, List.Pairwise.nil⟩
  | o :: R, h => by
    rw [List.map_cons, List.nodup_cons] at h
    obtain ⟨R', hp, hs⟩ := sortT R h.2
    refine ⟨insT o R', (insT_perm o R').trans (hp.cons o), insT_sorted hs (fun a ha hc => h.1 ?_)⟩
    rw [← hc]
    exact List.mem_map_of_mem (hp.mem_iff.1 ha)

theorem ltT_asymm {a b : Of} (h : ltT a b = true) (k : ltT b a = true) : False := by
  have := lt_trans h k
  rw [ltT_irrefl] at this
  exact absurd this (by simp)

theorem sorted_eq {S T : List Of} (hS : SortedT S) (hT : SortedT T) (h : S.Perm T) : S = T :=
  List.Perm.eq_of_pairwise (le := fun a b => ltT a b = true) (fun a b _ _ h1 h2 => (ltT_asymm h1 h2).elim) hS hT h

/-- As the reference has them. -/
def refL (m : Nat) (A : List (Nat × Nat)) : List (Nat × Nat) := A.map (fun x => (x.1, drawn m x.2))
theorem refL_len (m : Nat) (A : List (Nat × Nat)) : (refL m A).length = A.length := by simp [refL]
theorem refL_get {m i : Nat} {A : List (Nat × Nat)} {x : Nat × Nat} (h : A[i]? = some x) : (refL m A).getD i (0, 0) = (x.1, drawn m x.2) := by
  simp [refL, List.getD, h]
theorem offs_ref (m : Nat) (A : List (Nat × Nat)) : offs m 0 A = (List.range A.length).map (offL (refL m A)) := by
  refine List.ext_getElem? fun i => ?_
  rw [offs_get, List.getElem?_map, Nat.zero_add]
  by_cases h : i < A.length
  · have hx : A[i]? = some A[i] := List.getElem?_eq_getElem h
    rw [hx, List.getElem?_range h]
    simp only [Option.map_some, offL, refL_get hx]
  · rw [List.getElem?_eq_none (by omega), List.getElem?_eq_none (by simp; omega)]
    rfl

theorem refTo_eq (keep m : Nat) (L : List (Nat × Nat)) : ∀ i, refTo keep m L i = ((List.range i).filter (fun j => decide (posI j (orderN (abL L) L.length) < keep))).map (refOne keep m L)
  | 0 => rfl
  | i + 1 => by
    rw [refTo, List.range_succ, List.filter_append, List.map_append, refTo_eq keep m L i]
    by_cases h : posI i (orderN (abL L) L.length) < keep
    · rw [if_pos h]
      simp [h]
    · rw [if_neg h]
      simp [h]

theorem refOne_p (keep m : Nat) (L : List (Nat × Nat)) (i : Nat) : (refOne keep m L i).p = i := by
  unfold refOne
  split <;> rfl
theorem refTo_asc (keep m : Nat) (L : List (Nat × Nat)) (n : Nat) : (refTo keep m L n).Pairwise (fun a b => a.p < b.p) := by
  rw [refTo_eq, List.pairwise_map]
  simp only [refOne_p]
  exact List.Pairwise.filter _ List.pairwise_lt_range

/-- Behind all: the greatest, in the order of the reference. -/
theorem held_order {keep m : Nat} {A : List (Nat × Nat)} : heldS keep m A = (((orderN (abL (refL m A)) A.length).map (offL (refL m A))).take (keep + 1)).reverse := by
  have ht := top_all keep m A
  obtain ⟨R, hR, hRS⟩ := ht.rest
  have hl := ht.len
  rw [offs_len] at hl
  have hnd : ((offs m 0 A).map Of.p).Nodup := by
    rw [List.nodup_iff_pairwise_ne, List.pairwise_map]
    exact (offs_asc m A 0).imp (fun h => Nat.ne_of_lt h)
  have hnd2 := (hR.map Of.p).nodup_iff.2 hnd
  rw [List.map_append] at hnd2
  obtain ⟨R', hp', hs'⟩ := sortT R (List.nodup_append.1 hnd2).1
  generalize hT : (orderN (abL (refL m A)) A.length).map (offL (refL m A)) = T
  have hTs : SortedT T.reverse := by
    unfold SortedT
    rw [List.pairwise_reverse, ← hT, List.pairwise_map]
    exact orderN_sorted (refL m A) A.length
  have hTp : T.Perm (offs m 0 A) := by
    rw [← hT, offs_ref]
    exact (orderN_perm _ _).map _
  have hfull : R' ++ heldS keep m A = T.reverse := by
    refine sorted_eq ?_ hTs (((hp'.append_right _).trans hR).trans (hTp.symm.trans (List.reverse_perm T).symm))
    refine List.pairwise_append.2 ⟨hs', ht.sorted, fun a ha b hb => hRS a (hp'.mem_iff.1 ha) b hb⟩
  have hTl : T.length = A.length := by rw [hTp.length_eq, offs_len]
  have h1 : heldS keep m A = T.reverse.drop R'.length := by rw [← hfull, List.drop_left]
  have hRl : R'.length + (heldS keep m A).length = A.length := by
    have := congrArg List.length hfull
    rw [List.length_append, List.length_reverse, hTl] at this
    exact this
  rw [h1, List.drop_reverse]
  congr 1
  rw [hTl]
  by_cases hc : A.length ≤ keep + 1
  · rw [Nat.min_eq_left hc] at hl
    rw [List.take_of_length_le (by omega), List.take_of_length_le (by omega)]
  · rw [Nat.min_eq_right (by omega)] at hl
    congr 1
    omega

theorem countN_plain (m : Nat) (o b : Of) : countN m o b = countN m ⟨o.w, 0, 0⟩ ⟨b.w, b.d, 0⟩ := rfl

theorem pos_take {O : List Nat} (hn : O.Nodup) {i keep : Nat} (hi : i ∈ O) : posI i O < keep ↔ i ∈ O.take keep := by
  constructor
  · intro h
    have h1 := posI_get hi
    have h2 : (O.take keep)[posI i O]? = some i := by rw [List.getElem?_take_of_lt h]; exact h1
    exact List.mem_of_getElem? h2
  · intro h
    obtain ⟨j, hj, he⟩ := List.getElem_of_mem h
    rw [List.length_take] at hj
    have h1 : O[j]? = some i := by
      have h2 : (O.take keep)[j]? = some i := by rw [List.getElem?_eq_getElem (by rw [List.length_take]; omega), he]
      rwa [List.getElem?_take_of_lt (by omega)] at h2
    by_cases hc : posI i O < keep
    · exact hc
    · exact absurd rfl (posI_before (O := O) (q := j) (i := i) (by omega) h1)

theorem keeps_same {keep m : Nat} {A : List (Nat × Nat)} {M : List Kt} (hk : 1 ≤ keep) (hp : M.Perm (closeS keep m (heldS keep m A))) (hs : M.Pairwise (fun a b => a.p ≤ b.p)) : M = refTo keep m (refL m A) A.length := by
  have hasc := refTo_asc keep m (refL m A) A.length
  refine kept_eq (hp.trans ?_) hs (hasc.imp (fun h => Nat.le_of_lt h)) (hasc.imp (fun h => Nat.ne_of_lt h))
  rw [held_order, refTo_eq, refL_len]
  obtain ⟨O, hO⟩ : ∃ O, O = orderN (abL (refL m A)) A.length := ⟨_, rfl⟩
  have hOl : O.length = A.length := by rw [hO, orderN_len]
  have hOp : O.Perm (List.range A.length) := by rw [hO]; exact orderN_perm _ _
  have hOn : O.Nodup := hOp.nodup_iff.2 List.nodup_range
  rw [← hO]
  have hfil : ((List.range A.length).filter (fun j => decide (posI j O < keep))).Perm (O.take keep) := by
    refine (List.Perm.filter _ hOp.symm).trans ?_
    have h1 : O.filter (fun j => decide (posI j O < keep)) = O.filter (fun j => decide (j ∈ O.take keep)) := by
      refine List.filter_congr fun x hx => ?_
      rw [Bool.eq_iff_iff, decide_eq_true_iff, decide_eq_true_iff]
      exact pos_take hOn hx
    rw [h1]
    have h2 : O = O.take keep ++ O.drop keep := (List.take_append_drop keep O).symm
    have h3 : (O.take keep).filter (fun j => decide (j ∈ O.take keep)) = O.take keep := List.filter_eq_self.2 (fun x hx => by simpa using hx)
    have h4 : (O.drop keep).filter (fun j => decide (j ∈ O.take keep)) = [] := by
      rw [List.filter_eq_nil_iff]
      intro x hx hc
      rw [decide_eq_true_iff] at hc
      rw [h2] at hOn
      exact (List.nodup_append.1 hOn).2.2 x hc x hx rfl
    conv => lhs; arg 2; rw [h2]
    rw [List.filter_append, h3, h4, List.append_nil]
  refine List.Perm.trans ?_ ((hfil.map _).symm)
  by_cases hc : A.length ≤ keep
  · have h1 : (O.map (offL (refL m A))).take (keep + 1) = O.map (offL (refL m A)) := List.take_of_length_le (by simp; omega)
    have h2 : O.take keep = O := List.take_of_length_le (by omega)
    rw [h1, h2]
    have h3 : closeS keep m (O.map (offL (refL m A))).reverse = ((O.map (offL (refL m A))).reverse).map lightK := by
      cases hX : (O.map (offL (refL m A))).reverse with
      | nil => rfl
      | cons b S =>
        have := congrArg List.length hX
        rw [List.length_reverse, List.length_map, hOl, List.length_cons] at this
        rw [closeS, if_pos (by omega)]
    rw [h3, ← List.map_reverse, List.map_map]
    have h4 : ∀ i, (lightK ∘ offL (refL m A)) i = refOne keep m (refL m A) i := by
      intro i
      unfold refOne
      rw [if_neg (by rw [refL_len]; omega)]
      rfl
    rw [List.map_congr_left (fun i _ => h4 i)]
    exact (List.reverse_perm O).map _
  · have hkl : keep < O.length := by omega
    have h1 : ((O.map (offL (refL m A))).take (keep + 1)).reverse = offL (refL m A) O[keep] :: ((O.take keep).map (offL (refL m A))).reverse := by
      have h0 : (O.map (offL (refL m A))).take (keep + 1) = (O.take keep).map (offL (refL m A)) ++ [offL (refL m A) O[keep]] := by
        rw [List.take_add_one, List.getElem?_map, List.getElem?_eq_getElem hkl, ← List.map_take]; rfl
      rw [h0, List.reverse_append]
      rfl
    rw [h1, closeS, if_neg (by simp; omega), ← List.map_reverse, List.map_map]
    have h4 : ∀ i, (countK m (offL (refL m A) O[keep]) ∘ offL (refL m A)) i = refOne keep m (refL m A) i := by
      intro i
      unfold refOne
      rw [if_pos (by rw [refL_len]; omega), refL_len, ← hO]
      have h5 : O.getD keep 0 = O[keep] := by simp [List.getD, List.getElem?_eq_getElem hkl]
      rw [h5]
      rfl
    rw [List.map_congr_left (fun i _ => h4 i)]
    exact (List.reverse_perm _).map _

end Go.Proofs.Ytbboklmmnnedjaa
