/- PrioMean, plainly: what is told of one vector of draws. -/
import Derived.Test.YtbboklmmnnedjaaVd
set_option linter.unusedVariables false
set_option linter.unusedSimpArgs false
namespace Go.Proofs.Ytbboklmmnnedjaa
open Go.Pr

def listCost (den : Nat) : List Kt → Nat
  | [] => 0
  | x :: R => costOf den x + listCost den R
theorem listCost_app (den : Nat) (M N : List Kt) : listCost den (M ++ N) = listCost den M + listCost den N := by
  induction M with
  | nil => simp [listCost]
  | cons x R ih => rw [List.cons_append, listCost, listCost, ih]; omega
theorem listCost_take {den : Nat} {M : List Kt} {j : Nat} {x : Kt} (h : M[j]? = some x) : listCost den (M.take (j + 1)) = listCost den (M.take j) + costOf den x := by
  rw [List.take_add_one, h, listCost_app]
  simp [listCost]
theorem listCost_ref (k m den : Nat) (L : List (Nat × Nat)) : ∀ i, listCost den (refTo k m L i) = sumTo i (fun j => gOf k m den j L)
  | 0 => rfl
  | i + 1 => by
    rw [refTo, sumTo, ← listCost_ref k m den L i]
    have hg : gOf k m den i L = if posI i (orderN (abL L) L.length) < k then costOf den (refOne k m L i) else 0 := rfl
    rw [hg]
    split
    · rw [listCost_app]; simp [listCost]
    · simp

structure KeptOk (den n : Nat) (Ws : List Nat) (x : Kt) : Prop where
  lt : x.p < n
  pos : 0 < x.d
  dvd : x.d ∣ den
  ge : Ws.getD x.p 0 * x.d ≤ x.n
  top : x.n ≤ 180

theorem kept_ok {k m den n v : Nat} {Ws : List Nat} (hm : 0 < m) (hm5 : m ≤ 5) (hden : ∀ j, 0 < j → j ≤ m → j ∣ den) (hW : ∀ j, Ws.getD j 0 ≤ 30) : ∀ x ∈ refTo k m (digL m n Ws v) n, KeptOk den n Ws x := by
  intro x hx
  rw [refTo_eq] at hx
  obtain ⟨i, hi, rfl⟩ := List.mem_map.1 hx
  have hin : i < n := List.mem_range.1 (List.mem_filter.1 hi).1
  have hat := digL_at (m := m) (Ws := Ws) (v := v) hin
  have hp := refOne_p k m (digL m n Ws v) i
  unfold refOne at hp ⊢
  by_cases hk : k < (digL m n Ws v).length
  · rw [if_pos hk] at hp ⊢
    rw [digL_len] at hk
    have hol : ((orderN (abL (digL m n Ws v)) (digL m n Ws v).length).getD k 0) < n := by
      have h1 : (orderN (abL (digL m n Ws v)) (digL m n Ws v).length).length = n := by rw [orderN_len, digL_len]
      have h2 : (orderN (abL (digL m n Ws v)) (digL m n Ws v).length).getD k 0 ∈ orderN (abL (digL m n Ws v)) (digL m n Ws v).length := by
        simp [List.getD, List.getElem?_eq_getElem (show k < (orderN (abL (digL m n Ws v)) (digL m n Ws v).length).length by omega)]
      exact Nat.lt_of_lt_of_eq (orderN_mem.1 h2) (digL_len _ _ _ _)
    generalize (orderN (abL (digL m n Ws v)) (digL m n Ws v).length).getD k 0 = o at *
    rw [hat]
    simp only
    rw [digL_at hol]
    simp only
    have hc := cnt_ok (W := Ws.getD i 0) hm hm5 (hW o) (Nat.mod_lt (v / m ^ o) hm) hden
    refine ⟨hin, hc.pos, hc.dvd, hc.ge, ?_⟩
    have h1 := hc.small
    have h2 := hW i
    have h3 : Ws.getD o 0 * m ≤ 30 * 5 := Nat.mul_le_mul (hW o) hm5
    simp only
    omega
  · rw [if_neg hk, hat]
    exact ⟨hin, by simp, by simp, by simp, by have := hW i; simp only; omega⟩

theorem cost_le {den n : Nat} {Ws : List Nat} {x : Kt} (h : KeptOk den n Ws x) (hd : den ≤ 60) : costOf den x ≤ 10800 := by
  unfold costOf
  have h1 : den / x.d ≤ den := Nat.div_le_self _ _
  exact Nat.mul_le_mul (Nat.le_trans h1 hd) h.top

theorem listCost_le {den n : Nat} {Ws : List Nat} (hd : den ≤ 60) : ∀ M : List Kt, (∀ x ∈ M, KeptOk den n Ws x) → listCost den M ≤ M.length * 10800
  | [], _ => by simp [listCost]
  | x :: R, h => by
    have h1 := listCost_le hd R (fun y hy => h y (List.mem_cons_of_mem _ hy))
    have h2 := cost_le (h x List.mem_cons_self) hd
    rw [listCost, List.length_cons, Nat.add_mul, Nat.one_mul]
    omega

theorem refL_dig {m n v : Nat} {Ws : List Nat} (hm : 0 < m) : refL m (digL m n Ws v) = digL m n Ws v := by
  unfold refL digL
  rw [List.map_map]
  refine List.map_congr_left fun i _ => ?_
  simp only [Function.comp]
  have : drawn m (v / m ^ i % m) = v / m ^ i % m := by
    unfold drawn
    rw [if_neg (by omega), Nat.mod_mod]
  rw [this]

/-- Close's answer. -/
theorem vec_close {k m n v : Nat} {Ws : List Nat} {M : List Kt} (hm : 0 < m) (hk : 1 ≤ k) (hp : M.Perm (closeS k m (heldS k m (digL m n Ws v)))) (hs : M.Pairwise (fun a b => a.p ≤ b.p)) :
    M = refTo k m (digL m n Ws v) n ∧ M.length = min n k := by
  have h1 := keeps_same hk hp hs
  rw [refL_dig hm, digL_len] at h1
  have h2 := (great_places hp hs).len
  rw [List.length_map, digL_len] at h2
  exact ⟨h1, h2⟩

def costV (k m den n : Nat) (Ws : List Nat) (v : Nat) : Nat := sumTo n (fun i => gOf k m den i (digL m n Ws v))
theorem costV_le {k m den n : Nat} {Ws : List Nat} (hm : 0 < m) (hm5 : m ≤ 5) (hden : ∀ j, 0 < j → j ≤ m → j ∣ den) (hW : ∀ j, Ws.getD j 0 ≤ 30) (hd : den ≤ 60) (v : Nat) : costV k m den n Ws v ≤ n * 10800 := by
  have h1 := listCost_le hd _ (kept_ok (k := k) (n := n) (v := v) hm hm5 hden hW)
  rw [listCost_ref] at h1
  have h2 := refTo_len k m (digL m n Ws v) n
  have h3 : (refTo k m (digL m n Ws v) n).length * 10800 ≤ n * 10800 := Nat.mul_le_mul_right _ h2
  exact Nat.le_trans h1 h3
theorem sum_costV_le {k m den n : Nat} {Ws : List Nat} (hm : 0 < m) (hm5 : m ≤ 5) (hden : ∀ j, 0 < j → j ≤ m → j ∣ den) (hW : ∀ j, Ws.getD j 0 ≤ 30) (hd : den ≤ 60) (v : Nat) : sumTo v (costV k m den n Ws) ≤ v * (n * 10800) := by
  obtain ⟨c, hc⟩ : ∃ c, c = n * 10800 := ⟨_, rfl⟩
  rw [← hc]
  have h : sumTo v (costV k m den n Ws) ≤ sumTo v (fun _ => c) := sumTo_le (fun i _ => by rw [hc]; exact costV_le hm hm5 hden hW hd i)
  rw [sumTo_const] at h
  exact h

end Go.Proofs.Ytbboklmmnnedjaa
