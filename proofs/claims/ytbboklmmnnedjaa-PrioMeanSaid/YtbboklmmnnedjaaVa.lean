/- PrioMean, plainly: sums over all draws. -/
import Derived.Test.YtbboklmmnnedjaaUi
set_option linter.unusedVariables false
set_option linter.unusedSimpArgs false
namespace Go.Proofs.Ytbboklmmnnedjaa
open Go.Pr

def sumTo : Nat → (Nat → Nat) → Nat
  | 0, _ => 0
  | n + 1, f => sumTo n f + f n
theorem sumTo_congr {f g : Nat → Nat} : ∀ {n : Nat}, (∀ i, i < n → f i = g i) → sumTo n f = sumTo n g
  | 0, _ => rfl
  | n + 1, h => by rw [sumTo, sumTo, sumTo_congr (fun i hi => h i (by omega)), h n (by omega)]
theorem sumTo_le {f g : Nat → Nat} : ∀ {n : Nat}, (∀ i, i < n → f i ≤ g i) → sumTo n f ≤ sumTo n g
  | 0, _ => Nat.le_refl _
  | n + 1, h => by
    rw [sumTo, sumTo]
    have := sumTo_le (n := n) (fun i hi => h i (by omega))
    have := h n (by omega)
    omega
theorem sumTo_const (c : Nat) : ∀ n, sumTo n (fun _ => c) = n * c
  | 0 => by simp [sumTo]
  | n + 1 => by rw [sumTo, sumTo_const c n, Nat.add_mul, Nat.one_mul]
theorem sumTo_add (f g : Nat → Nat) : ∀ n, sumTo n (fun i => f i + g i) = sumTo n f + sumTo n g
  | 0 => rfl
  | n + 1 => by rw [sumTo, sumTo, sumTo, sumTo_add f g n]; omega
theorem sumTo_swap (f : Nat → Nat → Nat) (n : Nat) : ∀ m, sumTo m (fun j => sumTo n (fun i => f i j)) = sumTo n (fun i => sumTo m (fun j => f i j))
  | 0 => by
    have : (fun i => sumTo 0 (fun j => f i j)) = fun _ => 0 := rfl
    rw [this, sumTo_const]; simp [sumTo]
  | m + 1 => by
    rw [sumTo, sumTo_swap f n m, ← sumTo_add]
    rfl
theorem sumTo_more (f : Nat → Nat) (n : Nat) : ∀ k, sumTo (n + k) f = sumTo n f + sumTo k (fun i => f (n + i))
  | 0 => rfl
  | k + 1 => by rw [← Nat.add_assoc, sumTo, sumTo, sumTo_more f n k]; omega
theorem sumTo_split (f : Nat → Nat) (P : Nat) : ∀ Q, sumTo (P * Q) f = sumTo Q (fun q => sumTo P (fun p => f (p + P * q)))
  | 0 => rfl
  | Q + 1 => by
    rw [Nat.mul_succ, sumTo_more, sumTo_split f P Q, sumTo]
    congr 1
    exact sumTo_congr (fun i _ => by rw [Nat.add_comm])
theorem sumTo_one {f : Nat → Nat} : ∀ {n i : Nat}, i < n → f i ≤ sumTo n f
  | n + 1, i, h => by
    rw [sumTo]
    by_cases hi : i < n
    · have := sumTo_one (f := f) hi; omega
    · have : i = n := by omega
      subst this
      omega

/-- How many are so. -/
def cntTo : Nat → (Nat → Bool) → Nat
  | 0, _ => 0
  | n + 1, P => cntTo n P + if P n then 1 else 0
theorem cntTo_le (P : Nat → Bool) : ∀ n, cntTo n P ≤ n
  | 0 => Nat.le_refl _
  | n + 1 => by
    rw [cntTo]
    have := cntTo_le P n
    split <;> omega
theorem cntTo_last (P : Nat → Bool) : ∀ n, 0 < cntTo n P → ∃ d, d < n ∧ P d = true ∧ cntTo n P ≤ d + 1
  | 0, h => by simp [cntTo] at h
  | n + 1, h => by
    rw [cntTo] at h ⊢
    by_cases hp : P n = true
    · refine ⟨n, by omega, hp, ?_⟩
      have := cntTo_le P n
      rw [if_pos hp]
      omega
    · rw [if_neg hp] at h ⊢
      obtain ⟨d, h1, h2, h3⟩ := cntTo_last P n (by omega)
      exact ⟨d, by omega, h2, by omega⟩
theorem sumTo_cnt (P : Nat → Bool) (c : Nat) : ∀ n, sumTo n (fun d => if P d then c else 0) = cntTo n P * c
  | 0 => by simp [sumTo, cntTo]
  | n + 1 => by
    rw [sumTo, cntTo, sumTo_cnt P c n, Nat.add_mul]
    split <;> simp

/-- For how much one counts, by a bar. -/
structure CntP (m W Wb Db den : Nat) (x : Nat × Nat) : Prop where
  pos : 0 < x.2
  dvd : x.2 ∣ den
  ge : W * x.2 ≤ x.1
  small : x.1 ≤ W + Wb * m
  cost : (Wb * m ≤ W * (Db + 1) → den / x.2 * x.1 = den * W) ∧ (¬ Wb * m ≤ W * (Db + 1) → den / x.2 * x.1 * (Db + 1) = den * (Wb * m))

theorem cnt_ok {m W Wb Db den : Nat} (hm : 0 < m) (hm5 : m ≤ 5) (hWb : Wb ≤ 30) (hDb : Db < m) (hden : ∀ j, 0 < j → j ≤ m → j ∣ den) : CntP m W Wb Db den (countN m ⟨W, 0, 0⟩ ⟨Wb, Db, 0⟩) := by
  have hA : allN m Wb = Wb * m := by unfold allN; rw [if_neg (by omega)]
  rw [countN_of m Wb Db W (Wb * m) (W * (Db + 1)) hA rfl 0 0]
  by_cases h1 : Wb * m ≤ W * (Db + 1)
  · rw [if_pos h1]
    exact ⟨by simp, by simp, by simp, by simp, fun _ => by simp, fun h => absurd h1 h⟩
  · rw [if_neg h1, if_neg (by unfold big; omega)]
    have hall : Wb * m ≤ 150 := Nat.mul_le_mul hWb hm5
    have e1 : Wb * m / big = 0 := Nat.div_eq_of_lt (by unfold big; omega)
    have e2 : Wb * m % big = Wb * m := Nat.mod_eq_of_lt (by unfold big; omega)
    rw [e1, e2]
    have hG : Nat.gcd (Db + 1) (Wb * m % (Db + 1)) = Nat.gcd (Db + 1) (Wb * m) := by
      rw [Nat.gcd_comm, ← Nat.gcd_rec, Nat.gcd_comm]
      try exact Nat.gcd_comm _ _
    rw [hG]
    obtain ⟨G, hGe⟩ : ∃ G, G = Nat.gcd (Db + 1) (Wb * m) := ⟨_, rfl⟩
    rw [← hGe]
    have g1 : G ∣ Db + 1 := by rw [hGe]; exact Nat.gcd_dvd_left _ _
    have g2 : G ∣ Wb * m := by rw [hGe]; exact Nat.gcd_dvd_right _ _
    have g0 : 0 < G := by rw [hGe]; exact Nat.gcd_pos_of_pos_left _ (by omega)
    have hov : overN 0 (Wb * m) G = Wb * m / G := by
      unfold overN
      rw [if_neg (by omega), Nat.zero_mul, Nat.zero_add]
    rw [hov]
    obtain ⟨a, ha⟩ := g1
    obtain ⟨b, hb⟩ := g2
    have e3 : (Db + 1) / G = a := by rw [ha]; exact Nat.mul_div_cancel_left _ g0
    have e4 : Wb * m / G = b := by rw [hb]; exact Nat.mul_div_cancel_left _ g0
    rw [e3, e4]
    have ha0 : 0 < a := by
      rcases Nat.eq_zero_or_pos a with h | h
      · subst h; simp at ha
      · exact h
    have had : a ∣ den := Nat.dvd_trans ⟨G, by rw [ha, Nat.mul_comm]⟩ (hden (Db + 1) (by omega) (by omega))
    refine ⟨ha0, had, ?_, ?_, fun h => absurd h h1, fun _ => ?_⟩
    · show W * a ≤ b
      have h2 : W * (Db + 1) < Wb * m := by omega
      rw [ha, hb] at h2
      have h3 : G * (W * a) < G * b := by rw [Nat.mul_left_comm]; exact h2
      exact Nat.le_of_lt (Nat.lt_of_mul_lt_mul_left h3)
    · show b ≤ W + Wb * m
      have : b ≤ G * b := Nat.le_mul_of_pos_left _ g0
      omega
    · show den / a * b * (Db + 1) = den * (Wb * m)
      obtain ⟨c, hc⟩ := had
      rw [hc, Nat.mul_div_cancel_left _ ha0, ha, hb]
      rw [Nat.mul_comm G a, Nat.mul_assoc c b, Nat.mul_left_comm b a G, Nat.mul_comm b G, ← Nat.mul_assoc c a, Nat.mul_comm c a, ← Nat.mul_assoc]

/-- One place, the others' draws fixed: on average no more than its weight. -/
theorem place_mean {m W Wb Db den C : Nat} {P : Nat → Bool} (hP : ∀ d, d < m → P d = true → Wb * (d + 1) ≤ W * (Db + 1)) (hC : (Wb * m ≤ W * (Db + 1) → C = den * W) ∧ (¬ Wb * m ≤ W * (Db + 1) → C * (Db + 1) = den * (Wb * m))) :
    cntTo m P * C ≤ m * W * den := by
  by_cases h1 : Wb * m ≤ W * (Db + 1)
  · rw [hC.1 h1]
    have := cntTo_le P m
    calc cntTo m P * (den * W) ≤ m * (den * W) := Nat.mul_le_mul_right _ this
      _ = m * W * den := by rw [Nat.mul_comm den W, Nat.mul_assoc]
  · have hc := hC.2 h1
    rcases Nat.eq_zero_or_pos (cntTo m P) with h0 | h0
    · rw [h0]; simp
    · obtain ⟨d, hd, hp, hle⟩ := cntTo_last P m h0
      have h2 := hP d hd hp
      have h3 : Wb * cntTo m P ≤ W * (Db + 1) := Nat.le_trans (Nat.mul_le_mul_left _ hle) h2
      have h4 : cntTo m P * C * (Db + 1) ≤ m * W * den * (Db + 1) := by
        rw [Nat.mul_assoc, hc]
        calc cntTo m P * (den * (Wb * m)) = Wb * cntTo m P * (den * m) := by
              rw [Nat.mul_left_comm, Nat.mul_left_comm (cntTo m P) Wb m, Nat.mul_left_comm den Wb, Nat.mul_assoc, Nat.mul_left_comm den (cntTo m P) m]
          _ ≤ W * (Db + 1) * (den * m) := Nat.mul_le_mul_right _ h3
          _ = m * W * den * (Db + 1) := by
              rw [Nat.mul_comm W (Db + 1), Nat.mul_comm (m * W * den) (Db + 1), Nat.mul_assoc, Nat.mul_comm m W, Nat.mul_assoc W m den, Nat.mul_comm m den]
      exact Nat.le_of_mul_le_mul_right h4 (by omega)

end Go.Proofs.Ytbboklmmnnedjaa
