/- PrioMean, plainly: all draws, by their digits. -/
import Derived.Test.YtbboklmmnnedjaaVb
set_option linter.unusedVariables false
set_option linter.unusedSimpArgs false
namespace Go.Proofs.Ytbboklmmnnedjaa
open Go.Pr

def digL (m n : Nat) (Ws : List Nat) (v : Nat) : List (Nat × Nat) := (List.range n).map (fun i => (Ws.getD i 0, v / m ^ i % m))
theorem digL_len (m n : Nat) (Ws : List Nat) (v : Nat) : (digL m n Ws v).length = n := by simp [digL]
theorem digL_get {m n : Nat} {Ws : List Nat} {v i : Nat} (hi : i < n) : (digL m n Ws v)[i]? = some (Ws.getD i 0, v / m ^ i % m) := by
  unfold digL
  rw [List.getElem?_map, List.getElem?_range hi]
  rfl
theorem digL_at {m n : Nat} {Ws : List Nat} {v i : Nat} (hi : i < n) : (digL m n Ws v).getD i (0, 0) = (Ws.getD i 0, v / m ^ i % m) := by
  simp [List.getD, digL_get hi]
theorem digL_out {m n : Nat} {Ws : List Nat} {v i : Nat} (hi : n ≤ i) : (digL m n Ws v).getD i (0, 0) = (0, 0) := by
  have : (digL m n Ws v)[i]? = none := List.getElem?_eq_none (by rw [digL_len]; exact hi)
  simp [List.getD, this]

theorem dig_here {m i a d q : Nat} (hm : 0 < m) (ha : a < m ^ i) (hd : d < m) : (a + m ^ i * d + m ^ (i + 1) * q) / m ^ i % m = d := by
  have h1 : a + m ^ i * d + m ^ (i + 1) * q = a + m ^ i * (d + m * q) := by rw [Nat.mul_add, Nat.pow_succ, Nat.mul_assoc]; omega
  rw [h1, Nat.add_mul_div_left _ _ (Nat.pow_pos hm), Nat.div_eq_of_lt ha, Nat.zero_add, Nat.add_mul_mod_self_left, Nat.mod_eq_of_lt hd]
theorem dig_below {m i j a d q : Nat} (hm : 0 < m) (hj : j < i) : (a + m ^ i * d + m ^ (i + 1) * q) / m ^ j % m = a / m ^ j % m := by
  have e1 : m ^ i = m ^ j * (m * m ^ (i - j - 1)) := by
    rw [← Nat.mul_assoc, ← Nat.pow_succ, ← Nat.pow_add]; congr 1; omega
  have h1 : a + m ^ i * d + m ^ (i + 1) * q = a + m ^ j * (m * (m ^ (i - j - 1) * d + m ^ (i - j - 1) * m * q)) := by
    rw [Nat.pow_succ, e1]
    simp only [Nat.mul_add, Nat.mul_assoc]
    omega
  rw [h1, Nat.add_mul_div_left _ _ (Nat.pow_pos hm), Nat.add_mul_mod_self_left]
theorem dig_above {m i j a d q : Nat} (hm : 0 < m) (ha : a < m ^ i) (hd : d < m) (hj : i < j) : (a + m ^ i * d + m ^ (i + 1) * q) / m ^ j % m = q / m ^ (j - i - 1) % m := by
  have e1 : m ^ j = m ^ (i + 1) * m ^ (j - i - 1) := by rw [← Nat.pow_add]; congr 1; omega
  have hlt : a + m ^ i * d < m ^ (i + 1) := by
    rw [Nat.pow_succ]
    have : m ^ i * (d + 1) ≤ m ^ i * m := Nat.mul_le_mul_left _ hd
    rw [Nat.mul_add, Nat.mul_one] at this
    omega
  rw [e1, ← Nat.div_div_eq_div_mul, Nat.add_mul_div_left _ _ (Nat.pow_pos hm), Nat.div_eq_of_lt hlt, Nat.zero_add]

theorem dig_sum (f : Nat → Nat) {m n i : Nat} (hi : i < n) : sumTo (m ^ n) f = sumTo (m ^ (n - 1 - i)) (fun q => sumTo (m ^ i) (fun a => sumTo m (fun d => f (a + m ^ i * d + m ^ (i + 1) * q)))) := by
  have e1 : m ^ n = m ^ (i + 1) * m ^ (n - 1 - i) := by rw [← Nat.pow_add]; congr 1; omega
  rw [e1, sumTo_split]
  refine sumTo_congr fun q _ => ?_
  have e2 : m ^ (i + 1) = m ^ i * m := by rw [Nat.pow_succ]
  conv => lhs; rw [show sumTo (m ^ (i + 1)) (fun p => f (p + m ^ (i + 1) * q)) = sumTo (m ^ i * m) (fun p => f (p + m ^ (i + 1) * q)) from by rw [← e2]]
  rw [sumTo_split]
  exact sumTo_swap (fun a d => f (a + m ^ i * d + m ^ (i + 1) * q)) (m ^ i) m

theorem place_le {k m den n i : Nat} {Ws : List Nat} (hm : 0 < m) (hm5 : m ≤ 5) (hden : ∀ j, 0 < j → j ≤ m → j ∣ den) (hW : ∀ j, Ws.getD j 0 ≤ 30) (hi : i < n) (hkn : k < n) :
    sumTo (m ^ n) (fun v => gOf k m den i (digL m n Ws v)) ≤ m ^ n * (Ws.getD i 0 * den) := by
  rw [dig_sum _ hi]
  have h1 : ∀ q, q < m ^ (n - 1 - i) → sumTo (m ^ i) (fun a => sumTo m (fun d => gOf k m den i (digL m n Ws (a + m ^ i * d + m ^ (i + 1) * q)))) ≤ m ^ i * (m * Ws.getD i 0 * den) := by
    intro q _
    refine Nat.le_trans ?_ (Nat.le_of_eq (sumTo_const (m * Ws.getD i 0 * den) (m ^ i)))
    refine sumTo_le fun a ha => ?_
    refine place_many (n := n) (W := Ws.getD i 0) hm hm5 hden (fun d _ => digL_len _ _ _ _) hi hkn (fun d hd => ?_) (fun d d' hd hd' j hj => ?_) (fun d hd j hj => ?_)
    · rw [digL_at hi, dig_here hm ha hd]
    · by_cases hjn : j < n
      · rw [digL_at hjn, digL_at hjn]
        rcases Nat.lt_or_gt_of_ne hj with h | h
        · rw [dig_below hm h, dig_below hm h]
        · rw [dig_above hm ha hd h, dig_above hm ha hd' h]
      · rw [digL_out (by omega), digL_out (by omega)]
    · rw [digL_at hj]
      exact ⟨hW j, Nat.mod_lt _ hm⟩
  have h2 := sumTo_le h1
  rw [sumTo_const] at h2
  refine Nat.le_trans h2 (Nat.le_of_eq ?_)
  have e1 : m ^ n = m ^ (n - 1 - i) * (m ^ i * m) := by
    rw [← Nat.pow_succ, ← Nat.pow_add]; congr 1; omega
  rw [e1]
  simp only [Nat.mul_assoc]

theorem place_eq {k m den n i : Nat} {Ws : List Nat} (hi : i < n) (hkn : n ≤ k) :
    sumTo (m ^ n) (fun v => gOf k m den i (digL m n Ws v)) = m ^ n * (Ws.getD i 0 * den) := by
  rw [← sumTo_const]
  refine sumTo_congr fun v _ => ?_
  rw [place_few (by rw [digL_len]; exact hi) (by rw [digL_len]; exact hkn), digL_at hi, Nat.mul_comm]

theorem mul_sumTo (c : Nat) (f : Nat → Nat) : ∀ n, sumTo n (fun i => c * f i) = c * sumTo n f
  | 0 => rfl
  | n + 1 => by rw [sumTo, sumTo, mul_sumTo c f n, Nat.mul_add]

/-- What is told by all draws together. -/
def totalS (k m den n : Nat) (Ws : List Nat) : Nat := sumTo (m ^ n) (fun v => sumTo n (fun i => gOf k m den i (digL m n Ws v)))
def allW (n : Nat) (Ws : List Nat) : Nat := sumTo n (fun i => Ws.getD i 0)

theorem total_le {k m den n : Nat} {Ws : List Nat} (hm : 0 < m) (hm5 : m ≤ 5) (hden : ∀ j, 0 < j → j ≤ m → j ∣ den) (hW : ∀ j, Ws.getD j 0 ≤ 30) :
    totalS k m den n Ws ≤ allW n Ws * m ^ n * den ∧ (n ≤ k → totalS k m den n Ws = allW n Ws * m ^ n * den) := by
  have hsw : totalS k m den n Ws = sumTo n (fun i => sumTo (m ^ n) (fun v => gOf k m den i (digL m n Ws v))) := by
    unfold totalS
    exact sumTo_swap (fun i v => gOf k m den i (digL m n Ws v)) n (m ^ n)
  have hR : allW n Ws * m ^ n * den = sumTo n (fun i => m ^ n * (Ws.getD i 0 * den)) := by
    rw [mul_sumTo]
    have : sumTo n (fun i => Ws.getD i 0 * den) = sumTo n (fun i => Ws.getD i 0) * den := by
      have h := mul_sumTo den (fun i => Ws.getD i 0) n
      rw [Nat.mul_comm] at h
      rw [← h]
      exact sumTo_congr (fun i _ => Nat.mul_comm _ _)
    rw [this]
    unfold allW
    rw [Nat.mul_comm (sumTo n _) (m ^ n), Nat.mul_assoc]
  rw [hsw, hR]
  by_cases hkn : k < n
  · exact ⟨sumTo_le (fun i hi => place_le hm hm5 hden hW hi hkn), fun h => by omega⟩
  · have h1 := sumTo_congr (n := n) (f := fun i => sumTo (m ^ n) (fun v => gOf k m den i (digL m n Ws v))) (g := fun i => m ^ n * (Ws.getD i 0 * den)) (fun i hi => place_eq hi (by omega))
    exact ⟨Nat.le_of_eq h1, fun _ => h1⟩

end Go.Proofs.Ytbboklmmnnedjaa
