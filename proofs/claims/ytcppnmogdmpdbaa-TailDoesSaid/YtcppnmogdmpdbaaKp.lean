/- TailOnce: the plain law: what came out and what waits is what was taken. No program stands here. -/
import Derived.Test.YtcppnmogdmpdbaaKo
set_option linter.unusedVariables false
set_option linter.unusedSimpArgs false
namespace Go.Proofs.Ytcppnmogdmpdbaa
open Go.RowKit Go.Mk Go.Hp

/-- I was taken, O came out, A waits. -/
structure OnceI (i : Nat) (I O : List Int) (A : List Ab) : Prop where
  perm : (O ++ startsA A).Perm I
  inc : I.Pairwise (· < ·)
  lt : ∀ x ∈ I, 0 ≤ x ∧ x < i
  rises : ∀ a ∈ A, Rises a
  len : I.length ≤ i
  few : A.length ≤ i

theorem starts_cons (a : Ab) (A : List Ab) : startsA (a :: A) = a.sps.map (·.st) ++ startsA A := rfl
theorem starts_app (A B : List Ab) : startsA (A ++ B) = startsA A ++ startsA B := by unfold startsA; rw [List.flatMap_append]
theorem starts_len : ∀ A : List Ab, (startsA A).length = spansA A
  | [] => rfl
  | a :: A => by rw [starts_cons, List.length_append, List.length_map, starts_len A]; simp [spansA]

theorem more_none (t : Tr) (s : Sp) : ∀ {A : List Ab}, t ∉ A.map (·.tr) → A.map (fun a => if a.tr = t then a.more s else a) = A
  | [], _ => rfl
  | a :: A, h => by
    simp only [List.map_cons, List.mem_cons, not_or] at h
    rw [List.map_cons, if_neg (fun he => h.1 he.symm), more_none t s h.2]

theorem starts_more (t : Tr) (s : Sp) : ∀ {A : List Ab}, (A.map (·.tr)).Nodup → t ∈ A.map (·.tr) → (startsA (A.map (fun a => if a.tr = t then a.more s else a))).Perm (startsA A ++ [s.st])
  | [], _, h => by cases h
  | a :: A, hn, h => by
    simp only [List.map_cons, List.nodup_cons] at hn
    rw [List.map_cons, starts_cons, starts_cons]
    by_cases he : a.tr = t
    · rw [if_pos he, more_none t s (by rw [← he]; exact hn.1)]
      simp only [Ab.more, List.map_append, List.map_cons, List.map_nil, List.append_assoc]
      exact List.Perm.append_left _ List.perm_append_comm
    · rw [if_neg he, List.append_assoc]
      refine List.Perm.append_left _ (starts_more t s hn.2 ?_)
      rcases List.mem_cons.1 h with h1 | h1
      · exact absurd h1.symm he
      · exact h1

theorem starts_take {A : List Ab} (hn : (A.map (·.tr)).Nodup) (came due : Int) (s : Sp) : (startsA (takeA A came due s)).Perm (startsA A ++ [s.st]) := by
  unfold takeA
  by_cases h : s.tr ∈ A.map (·.tr)
  · rw [if_pos h]; exact starts_more s.tr s hn h
  · rw [if_neg h, starts_app]; exact List.Perm.refl _

theorem take_len (A : List Ab) (came due : Int) (s : Sp) : (takeA A came due s).length ≤ A.length + 1 := by
  unfold takeA
  split
  · rw [List.length_map]; omega
  · rw [List.length_append, List.length_singleton]; exact Nat.le_refl _
theorem mem_starts {A : List Ab} {a : Ab} {s : Sp} (ha : a ∈ A) (hs : s ∈ a.sps) : s.st ∈ startsA A := List.mem_flatMap.2 ⟨a, ha, List.mem_map_of_mem hs⟩

section
variable {i : Nat} {I O : List Int} {A : List Ab}
theorem OnceI.start : OnceI 0 [] [] [] := ⟨List.Perm.refl _, .nil, by simp, by simp, Nat.le_refl _, Nat.le_refl _⟩

theorem OnceI.skip (h : OnceI i I O A) : OnceI (i + 1) I O A := ⟨h.perm, h.inc, fun x hx => by have := h.lt x hx; omega, h.rises, by have := h.len; omega, by have := h.few; omega⟩

theorem OnceI.take (h : OnceI i I O A) (hn : (A.map (·.tr)).Nodup) (came due : Int) {s : Sp} (hs : s.st = (i : Int)) : OnceI (i + 1) (I ++ [(i : Int)]) O (takeA A came due s) := by
  have hlt : ∀ a ∈ A, ∀ q ∈ a.sps, q.st < (i : Int) := fun a ha q hq => (h.lt _ (h.perm.mem_iff.1 (List.mem_append_right _ (mem_starts ha hq)))).2
  refine ⟨?_, ?_, fun x hx => ?_, fun a ha => ?_, by have := h.len; rw [List.length_append, List.length_singleton]; omega, by have h1 := h.few; have h2 := take_len A came due s; omega⟩
  · refine (List.Perm.append_left O (starts_take hn came due s)).trans ?_
    rw [← List.append_assoc, hs]
    exact List.Perm.append_right _ h.perm
  · rw [List.pairwise_append]
    exact ⟨h.inc, by simp, fun x hx y hy => by rw [List.mem_singleton] at hy; rw [hy]; exact (h.lt x hx).2⟩
  · rcases List.mem_append.1 hx with hx | hx
    · have := h.lt x hx; omega
    · rw [List.mem_singleton] at hx; omega
  · have key : ∀ a ∈ A, a.tr = s.tr → Rises (a.more s) := fun a ha he => by
      obtain ⟨h1, h2⟩ := h.rises a ha
      refine ⟨fun q hq => ?_, ?_⟩
      · rcases List.mem_append.1 hq with hq | hq
        · exact h1 q hq
        · rw [List.mem_singleton.1 hq]; exact he.symm
      · show ((a.sps ++ [s]).map (·.st)).Pairwise (· < ·)
        rw [List.map_append, List.pairwise_append]
        refine ⟨h2, by simp, fun x hx y hy => ?_⟩
        obtain ⟨q, hq, rfl⟩ := List.mem_map.1 hx
        simp only [List.map_cons, List.map_nil, List.mem_singleton] at hy
        rw [hy, hs]
        exact hlt a ha q hq
    unfold takeA at ha
    split at ha
    · obtain ⟨x, hx, rfl⟩ := List.mem_map.1 ha
      split
      · rename_i he; exact key x hx he
      · exact h.rises x hx
    · rcases List.mem_append.1 ha with ha | ha
      · exact h.rises a ha
      · rw [List.mem_singleton.1 ha]
        exact ⟨fun q hq => by rw [List.mem_singleton.1 hq], by simp⟩

theorem due_rest (n : Int) (A : List Ab) : dueA n A ++ restA n A = A := by unfold dueA restA; exact List.takeWhile_append_dropWhile

theorem OnceI.due (h : OnceI i I O A) (n : Int) : OnceI i I (O ++ startsA (dueA n A)) (restA n A) := by
  refine ⟨?_, h.inc, h.lt, fun a ha => h.rises a ((List.dropWhile_sublist _).subset ha), h.len, Nat.le_trans (List.dropWhile_sublist _).length_le h.few⟩
  rw [List.append_assoc, ← starts_app, due_rest]
  exact h.perm

theorem OnceI.sizes (h : OnceI i I O A) : O.length + (startsA A).length = I.length := by rw [← List.length_append]; exact h.perm.length_eq

/-- At the end: what came out is what was taken, each once. -/
theorem OnceI.fin (h : OnceI i I O []) : O.Nodup ∧ (∀ x ∈ O, 0 ≤ x ∧ x < i) ∧ (∀ x ∈ I, x ∈ O ∧ 0 ≤ x ∧ x < i) ∧ I.length = O.length := by
  have hp : O.Perm I := by have := h.perm; simpa [startsA] using this
  have hnd : I.Nodup := h.inc.imp (fun hlt he => by omega)
  exact ⟨hp.nodup_iff.2 hnd, fun x hx => h.lt x (hp.mem_iff.1 hx), fun x hx => ⟨hp.mem_iff.2 hx, h.lt x hx⟩, hp.length_eq.symm⟩
end

theorem due_sub (n : Int) (A : List Ab) : ∀ a ∈ dueA n A, a ∈ A := fun a ha => (List.takeWhile_sublist _).subset ha
theorem starts_due_le (n : Int) (A : List Ab) : (startsA (dueA n A)).length ≤ (startsA A).length := by
  have h := congrArg List.length (congrArg startsA (due_rest n A))
  rw [starts_app, List.length_append] at h
  omega
theorem due_len_le (n : Int) (A : List Ab) : (dueA n A).length ≤ A.length := (List.takeWhile_sublist _).length_le

end Go.Proofs.Ytcppnmogdmpdbaa
