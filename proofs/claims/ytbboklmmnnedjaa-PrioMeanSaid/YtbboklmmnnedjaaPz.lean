/- Which of the offers a sampler holds: the greatest. No program stands in this text. -/
import Derived.Test.YtbboklmmnnedjaaPx
set_option linter.unusedVariables false
set_option linter.unusedSimpArgs false
namespace Go.Proofs.Ytbboklmmnnedjaa
open Go.Pr

/-- S holds the greatest of L, one more than are kept. -/
structure Top (keep : Nat) (L S : List Of) : Prop where
  rest : ∃ R, (R ++ S).Perm L ∧ ∀ r ∈ R, ∀ s ∈ S, ltT r s = true
  sorted : SortedT S
  len : S.length = min L.length (keep + 1)

theorem Top.nil (keep : Nat) : Top keep [] [] := ⟨⟨[], List.Perm.refl _, by simp⟩, List.Pairwise.nil, by simp⟩

theorem Top.mem {keep : Nat} {L S : List Of} (h : Top keep L S) : ∀ s ∈ S, s ∈ L := by
  obtain ⟨R, hp, _⟩ := h.rest
  exact fun s hs => hp.mem_iff.1 (List.mem_append_right R hs)

theorem Top.add {keep : Nat} {L S : List Of} {o : Of} (h : Top keep L S) (hne : ∀ a ∈ L, a.p ≠ o.p) : Top keep (L ++ [o]) (addS keep S o) := by
  obtain ⟨R, hp, hR⟩ := h.rest
  have hS : ∀ a ∈ S, a.p ≠ o.p := fun a ha => hne a (h.mem a ha)
  have hsrt := insT_sorted h.sorted hS
  have hpm := insT_perm o S
  have hl := insT_length o S
  have hlp := hp.length_eq
  rw [List.length_append] at hlp
  have hlen := h.len
  have hperm : (R ++ insT o S).Perm (L ++ [o]) := by
    refine (List.Perm.append_left R hpm).trans ?_
    refine List.perm_middle.trans ?_
    refine (hp.cons o).trans ?_
    exact (List.perm_append_singleton o L).symm
  by_cases hc : (insT o S).length ≤ keep + 1
  · have hadd : addS keep S o = insT o S := if_pos hc
    have hR0 : R = [] := by
      rw [← List.length_eq_zero_iff]
      rw [hl] at hc
      omega
    subst hR0
    rw [hadd]
    exact ⟨⟨[], hperm, by simp⟩, hsrt, by rw [hl, List.length_append, List.length_singleton]; omega⟩
  · have hadd : addS keep S o = (insT o S).tail := if_neg hc
    rw [hadd]
    cases hX : insT o S with
    | nil => rw [hX] at hl; simp at hl
    | cons x S' =>
      rw [hX] at hsrt hperm hl
      have hx := List.pairwise_cons.1 hsrt
      refine ⟨⟨R ++ [x], by rw [List.append_assoc]; exact hperm, fun r hr s hs => ?_⟩, hx.2, ?_⟩
      · rcases List.mem_append.1 hr with hr | hr
        · have hsm : s ∈ insT o S := by rw [hX]; exact List.mem_cons_of_mem _ hs
          rcases List.mem_cons.1 (hpm.mem_iff.1 hsm) with h1 | h1
          · subst h1
            have hxm : x ∈ insT s S := by rw [hX]; exact List.mem_cons_self
            have hxs := hx.1 s hs
            rcases List.mem_cons.1 (hpm.mem_iff.1 hxm) with h2 | h2
            · subst h2
              rw [ltT_irrefl] at hxs
              exact absurd hxs (by simp)
            · exact lt_trans (hR r hr x h2) hxs
          · exact hR r hr s h1
        · rw [List.mem_singleton] at hr
          subst hr
          exact hx.1 s hs
      · simp only [List.tail_cons, List.length_append, List.length_singleton]
        rw [hX] at hc
        simp only [List.length_cons] at hl hc
        omega

/-- Offers in their order, from a place on. -/
def offs (draws : Nat) : Nat → List (Nat × Nat) → List Of
  | _, [] => []
  | p, x :: D => ⟨x.1, drawn draws x.2, p⟩ :: offs draws (p + 1) D
theorem offs_len (draws : Nat) : ∀ (D : List (Nat × Nat)) (p : Nat), (offs draws p D).length = D.length
  | [], _ => rfl
  | x :: D, p => by rw [offs, List.length_cons, List.length_cons, offs_len draws D]
theorem offs_app (draws : Nat) (y : Nat × Nat) : ∀ (D : List (Nat × Nat)) (p : Nat), offs draws p (D ++ [y]) = offs draws p D ++ [⟨y.1, drawn draws y.2, p + D.length⟩]
  | [], p => by simp [offs]
  | x :: D, p => by
    rw [List.cons_append, offs, offs, offs_app draws y D, List.length_cons, List.cons_append]
    rw [show p + 1 + D.length = p + (D.length + 1) by omega]
theorem offs_get (draws : Nat) : ∀ (D : List (Nat × Nat)) (p i : Nat), (offs draws p D)[i]? = (D[i]?).map (fun x => ⟨x.1, drawn draws x.2, p + i⟩)
  | [], p, i => by simp [offs]
  | x :: D, p, 0 => by simp [offs]
  | x :: D, p, i + 1 => by
    rw [offs, List.getElem?_cons_succ, List.getElem?_cons_succ, offs_get draws D]
    rw [show p + 1 + i = p + (i + 1) by omega]
theorem offs_mem {draws p : Nat} {D : List (Nat × Nat)} {o : Of} (h : o ∈ offs draws p D) : ∃ i x, D[i]? = some x ∧ o = ⟨x.1, drawn draws x.2, p + i⟩ := by
  obtain ⟨i, hi, he⟩ := List.getElem_of_mem h
  have h1 : (offs draws p D)[i]? = some o := by rw [List.getElem?_eq_getElem hi, he]
  rw [offs_get] at h1
  obtain ⟨x, hx, he⟩ := Option.map_eq_some_iff.1 h1
  exact ⟨i, x, hx, he.symm⟩
theorem offs_lt {draws p : Nat} {D : List (Nat × Nat)} {o : Of} (h : o ∈ offs draws p D) : p ≤ o.p ∧ o.p < p + D.length := by
  obtain ⟨i, x, hx, rfl⟩ := offs_mem h
  have := (List.getElem?_eq_some_iff.1 hx).1
  simp only
  omega
theorem offs_asc (draws : Nat) : ∀ (D : List (Nat × Nat)) (p : Nat), (offs draws p D).Pairwise (fun a b => a.p < b.p)
  | [], _ => List.Pairwise.nil
  | x :: D, p => by
    rw [offs]
    refine List.pairwise_cons.2 ⟨fun a ha => ?_, offs_asc draws D (p + 1)⟩
    have := (offs_lt ha).1
    simp only
    omega

/-- What is held behind some offers. -/
def heldS (keep draws : Nat) (D : List (Nat × Nat)) : List Of := (offs draws 0 D).foldl (addS keep) []
theorem heldS_app (keep draws : Nat) (D : List (Nat × Nat)) (y : Nat × Nat) : heldS keep draws (D ++ [y]) = addS keep (heldS keep draws D) ⟨y.1, drawn draws y.2, D.length⟩ := by
  unfold heldS
  rw [offs_app, List.foldl_append, Nat.zero_add]
  rfl
theorem heldS_take {keep draws : Nat} {D : List (Nat × Nat)} {i : Nat} {y : Nat × Nat} (h : D[i]? = some y) : heldS keep draws (D.take (i + 1)) = addS keep (heldS keep draws (D.take i)) ⟨y.1, drawn draws y.2, i⟩ := by
  have hi := (List.getElem?_eq_some_iff.1 h).1
  rw [List.take_add_one, h]
  show heldS keep draws (D.take i ++ [y]) = _
  rw [heldS_app, List.length_take, Nat.min_eq_left (by omega)]
theorem top_held (keep draws : Nat) (D : List (Nat × Nat)) : ∀ i, i ≤ D.length → Top keep (offs draws 0 (D.take i)) (heldS keep draws (D.take i))
  | 0, _ => by simpa [heldS, offs] using Top.nil keep
  | i + 1, hi => by
    have hy : D[i]? = some (D[i]'(by omega)) := List.getElem?_eq_getElem (by omega)
    have ih := top_held keep draws D i (by omega)
    rw [heldS_take hy]
    have ht : D.take (i + 1) = D.take i ++ [D[i]'(by omega)] := by rw [List.take_add_one, hy]; rfl
    rw [ht, offs_app, List.length_take, Nat.min_eq_left (by omega), Nat.zero_add]
    refine ih.add (fun a ha => ?_)
    have := (offs_lt ha).2
    rw [List.length_take] at this
    simp only
    omega
theorem top_all (keep draws : Nat) (D : List (Nat × Nat)) : Top keep (offs draws 0 D) (heldS keep draws D) := by
  have := top_held keep draws D D.length (Nat.le_refl _)
  rwa [List.take_length] at this

/-- Two rows of what is kept, each by its place, of the same: they are the same. -/
theorem kept_eq {M N : List Kt} (h : M.Perm N) (hM : M.Pairwise (fun a b => a.p ≤ b.p)) (hN : N.Pairwise (fun a b => a.p ≤ b.p)) (hd : N.Pairwise (fun a b => a.p ≠ b.p)) : M = N := by
  refine List.Perm.eq_of_pairwise (le := fun a b : Kt => a.p ≤ b.p) (fun a b ha hb h1 h2 => ?_) hM hN h
  have hpe : a.p = b.p := Nat.le_antisymm h1 h2
  have ha' : a ∈ N := h.mem_iff.1 ha
  obtain ⟨i, hi, rfl⟩ := List.getElem_of_mem ha'
  obtain ⟨j, hj, rfl⟩ := List.getElem_of_mem hb
  have hw := List.pairwise_iff_getElem.1 hd
  rcases Nat.lt_trichotomy i j with hij | hij | hij
  · exact absurd hpe (hw i j hi hj hij)
  · subst hij; rfl
  · exact absurd hpe.symm (hw j i hj hi hij)

end Go.Proofs.Ytbboklmmnnedjaa
