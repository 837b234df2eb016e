/- PrioGreatest: what is kept is above what is not, plainly; the marks. -/
import Derived.Test.YtbboklmmnnedjaaQd
set_option linter.unusedVariables false
set_option linter.unusedSimpArgs false
namespace Go.Proofs.Ytbboklmmnnedjaa
open Go.RowKit Go.Mk Go.Pr

/-- The offers that are kept. -/
def keptS (keep : Nat) (S : List Of) : List Of := if S.length ≤ keep then S else S.tail
theorem closeS_places (keep draws : Nat) (S : List Of) : (closeS keep draws S).map Kt.p = (keptS keep S).map Of.p := by
  cases S with
  | nil => simp [closeS, keptS]
  | cons b S =>
    rw [closeS]
    unfold keptS
    by_cases h : S.length < keep
    · rw [if_pos h, if_pos (by simp; omega), List.map_map]; rfl
    · rw [if_neg h, if_neg (by simp; omega), List.map_map]; rfl

structure GreatP (draws n : Nat) (D : List (Nat × Nat)) (P : List Nat) (m : Nat) : Prop where
  asc : P.Pairwise (· < ·)
  lt : ∀ p ∈ P, p < n
  len : P.length = m
  above : ∀ (i j : Nat) (a b : Nat × Nat), D[i]? = some a → D[j]? = some b → i ∉ P → j ∈ P → aboveN a.1 (drawn draws a.2) b.1 (drawn draws b.2) = false

theorem asc_of {M : List Kt} (h : M.Pairwise (fun a b => a.p ≤ b.p)) (hd : (M.map Kt.p).Nodup) : (M.map Kt.p).Pairwise (· < ·) := by
  rw [List.pairwise_map]
  have hd' : M.Pairwise (fun a b => a.p ≠ b.p) := by
    rw [List.nodup_iff_pairwise_ne, List.pairwise_map] at hd
    exact hd
  exact (h.and hd').imp (fun ⟨h1, h2⟩ => by omega)

theorem great_places {keep draws : Nat} {D : List (Nat × Nat)} {M : List Kt} (hp : M.Perm (closeS keep draws (heldS keep draws D))) (hs : M.Pairwise (fun a b => a.p ≤ b.p)) : GreatP draws D.length D (M.map Kt.p) (min D.length keep) := by
  have ht := top_all keep draws D
  obtain ⟨R, hR, hRS⟩ := ht.rest
  have hlen := ht.len
  have hsort := ht.sorted
  rw [offs_len] at hlen
  have hP : (M.map Kt.p).Perm ((keptS keep (heldS keep draws D)).map Of.p) := by
    rw [← closeS_places keep draws]
    exact hp.map _
  generalize heldS keep draws D = S at *
  have hsub : ∃ T, (T ++ keptS keep S).Perm (offs draws 0 D) ∧ ∀ t ∈ T, ∀ s ∈ keptS keep S, ltT t s = true := by
    unfold keptS
    by_cases h : S.length ≤ keep
    · rw [if_pos h]; exact ⟨R, hR, hRS⟩
    · rw [if_neg h]
      cases S with
      | nil => simp at h
      | cons b S =>
        refine ⟨R ++ [b], by rw [List.append_assoc]; exact hR, fun t ht s hs => ?_⟩
        rcases List.mem_append.1 ht with ht | ht
        · exact hRS t ht s (List.mem_cons_of_mem _ hs)
        · rw [List.mem_singleton] at ht
          subst ht
          exact (List.pairwise_cons.1 hsort).1 s hs
  have hkl : (keptS keep S).length = min D.length keep := by
    unfold keptS
    by_cases h : S.length ≤ keep
    · rw [if_pos h, hlen]; rw [hlen] at h; omega
    · rw [if_neg h, List.length_tail, hlen]; rw [hlen] at h; omega
  obtain ⟨T, hT, hTS⟩ := hsub
  generalize keptS keep S = K at *
  have hnd : ((offs draws 0 D).map Of.p).Nodup := by
    rw [List.nodup_iff_pairwise_ne, List.pairwise_map]
    exact (offs_asc draws D 0).imp (fun h => Nat.ne_of_lt h)
  have hnd2 : ((T ++ K).map Of.p).Nodup := (hT.map Of.p).nodup_iff.2 hnd
  rw [List.map_append] at hnd2
  have hndK : (K.map Of.p).Nodup := (List.nodup_append.1 hnd2).2.1
  have hdis : ∀ x ∈ T, ∀ y ∈ K, x.p ≠ y.p := fun x hx y hy => (List.nodup_append.1 hnd2).2.2 _ (List.mem_map_of_mem hx) _ (List.mem_map_of_mem hy)
  have hmemK : ∀ x ∈ K, x ∈ offs draws 0 D := fun x hx => hT.mem_iff.1 (List.mem_append_right _ hx)
  refine ⟨asc_of hs (hP.nodup_iff.2 hndK), fun p hpm => ?_, ?_, fun i j a b ha hb hi hj => ?_⟩
  · obtain ⟨x, hx, rfl⟩ := List.mem_map.1 (hP.mem_iff.1 hpm)
    have := (offs_lt (hmemK x hx)).2
    omega
  · rw [hP.length_eq, List.length_map, hkl]
  · have hoi : (⟨a.1, drawn draws a.2, i⟩ : Of) ∈ offs draws 0 D := by
      have h1 := offs_get draws D 0 i
      rw [ha] at h1
      have := List.mem_of_getElem? h1
      simpa using this
    have hti : (⟨a.1, drawn draws a.2, i⟩ : Of) ∈ T := by
      rcases List.mem_append.1 (hT.mem_iff.2 hoi) with h | h
      · exact h
      · exact absurd (hP.mem_iff.2 (List.mem_map_of_mem (f := Of.p) h)) hi
    obtain ⟨y, hy, hyp⟩ := List.mem_map.1 (hP.mem_iff.1 hj)
    have hyj : y = ⟨b.1, drawn draws b.2, j⟩ := by
      obtain ⟨q, x, hx, rfl⟩ := offs_mem (hmemK y hy)
      simp only [Nat.zero_add] at hyp
      subst hyp
      rw [hx] at hb
      cases hb
      simp
    have hlt := hTS _ hti _ hy
    rw [hyj] at hlt
    rcases beats_iff.1 hlt with h | h
    · have : ¬ fr ⟨a.1, drawn draws a.2, i⟩ ⟨b.1, drawn draws b.2, j⟩ := fr_asymm h
      rw [Bool.eq_false_iff]
      intro hc
      exact this (fr_iff.1 hc)
    · rw [Bool.eq_false_iff]
      intro hc
      exact h.1 (fr_iff.1 hc)

/-- Which are kept, as marks. -/
def markL (n : Nat) (P : List Nat) : List (List Value) := (List.range n).map (fun j => [.int .i64 (if j ∈ P then 1 else 0)])
theorem markL_get {n j : Nat} {P : List Nat} (h : j < n) : (markL n P)[j]? = some [.int .i64 (if j ∈ P then 1 else 0)] := by
  unfold markL
  rw [List.getElem?_map, List.getElem?_range h]
  rfl
theorem markL_nil (n : Nat) : List.replicate n [Value.int .i64 0] = markL n [] := by
  refine List.ext_getElem? fun j => ?_
  by_cases h : j < n
  · rw [markL_get h, List.getElem?_replicate, if_pos h]
    simp
  · rw [List.getElem?_eq_none (by simp; omega), List.getElem?_eq_none (by simp [markL]; omega)]
theorem markL_set {n p : Nat} {P : List Nat} (hp : p < n) : (markL n P).set p [.int .i64 1] = markL n (P ++ [p]) := by
  refine List.ext_getElem? fun j => ?_
  by_cases h : j < n
  · rw [markL_get h, List.getElem?_set]
    by_cases hj : p = j
    · subst hj
      rw [if_pos rfl, if_pos (by simp [markL]; exact hp)]
      simp
    · rw [if_neg hj, markL_get h]
      have : (j ∈ P ++ [p]) ↔ j ∈ P := by simp; omega
      simp only [this]
  · rw [List.getElem?_eq_none (by simp [markL]; omega), List.getElem?_eq_none (by simp [markL]; omega)]

end Go.Proofs.Ytbboklmmnnedjaa
