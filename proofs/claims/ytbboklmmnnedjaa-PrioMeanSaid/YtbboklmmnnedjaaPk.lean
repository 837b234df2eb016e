/- Division of a number of two words by one word, by words of half the size: plain arithmetic. -/
import Derived.Test.YtbboklmmnnedjaaPp
set_option linter.unusedVariables false
set_option linter.unusedSimpArgs false
namespace Go.Pr

abbrev B32 : Nat := 4294967296

theorem kn_mul (q y1 y0 : Nat) : q * (y1 * B32 + y0) = q * y1 * B32 + q * y0 := by rw [Nat.mul_add, Nat.mul_assoc]
/-- the trial quotient fits: it is the quotient. -/
theorem kn_done {q r u y1 y0 u1 : Nat} (hi : q * y1 + r = u) (hq : q * y0 ≤ B32 * r + u1) : q * (y1 * B32 + y0) ≤ u * B32 + u1 := by
  rw [kn_mul, ← hi, Nat.add_mul]
  have : r * B32 = B32 * r := Nat.mul_comm _ _
  omega
/-- the trial quotient is too great. -/
theorem kn_more {q r u y1 y0 u1 : Nat} (hi : q * y1 + r = u) (hq : B32 * r + u1 < q * y0) : u * B32 + u1 < q * (y1 * B32 + y0) := by
  rw [kn_mul, ← hi, Nat.add_mul]
  have : r * B32 = B32 * r := Nat.mul_comm _ _
  omega
theorem kn_pred {q N Y : Nat} (h : N < q * Y) : N / Y ≤ q - 1 := by
  have := (Nat.div_lt_iff_lt_mul (by
    rcases Nat.eq_zero_or_pos Y with h0 | h0
    · subst h0; simp at h
    · exact h0)).2 h
  omega
theorem kn_eq {q N Y : Nat} (hY : 0 < Y) (h1 : q * Y ≤ N) (h2 : N / Y ≤ q) : q = N / Y := by
  have := (Nat.le_div_iff_mul_le hY).2 h1
  omega
theorem kn_lt {u y1 y0 u1 : Nat} (hu : u < y1 * B32 + y0) (h1 : u1 < B32) : (u * B32 + u1) / (y1 * B32 + y0) < B32 := by
  rw [Nat.div_lt_iff_lt_mul (by omega)]
  have : (u + 1) * B32 ≤ (y1 * B32 + y0) * B32 := Nat.mul_le_mul_right _ hu
  rw [Nat.add_mul] at this
  rw [Nat.mul_comm B32 (y1 * B32 + y0)]
  omega
/-- at the start the trial quotient is no less. -/
theorem kn_start {u y1 y0 u1 : Nat} (hy : 0 < y1) (h1 : u1 < B32) : (u * B32 + u1) / (y1 * B32 + y0) ≤ u / y1 := by
  have h2 : (u * B32 + u1) / (y1 * B32) = u / y1 := by
    rw [Nat.mul_comm y1, ← Nat.div_div_eq_div_mul, Nat.mul_comm u, Nat.mul_add_div (by omega), Nat.div_eq_of_lt h1, Nat.add_zero]
  rw [← h2]
  exact Nat.div_le_div_left (by omega) (Nat.mul_pos hy (by omega))
/-- it is greater by few. -/
theorem kn_top {u y1 y0 : Nat} (hy : 2147483648 ≤ y1) (h0 : y0 < B32) (hu : u < y1 * B32 + y0) : u / y1 ≤ B32 + 1 := by
  simp only [B32] at *
  have : u / y1 < 4294967298 := by
    rw [Nat.div_lt_iff_lt_mul (by omega)]
    omega
  omega
/-- left by the other way: the rest has no room. -/
theorem kn_break {q r u y1 y0 u1 : Nat} (hi : q * y1 + r = u) (hr : B32 ≤ r) (hq : q ≤ B32) (h0 : y0 < B32) : q * (y1 * B32 + y0) ≤ u * B32 + u1 := by
  refine kn_done hi ?_
  have h1 : q * y0 ≤ B32 * y0 := Nat.mul_le_mul_right _ hq
  have h2 : B32 * y0 ≤ B32 * r := Nat.mul_le_mul_left _ (by omega)
  omega

/-- the two halves together. -/
theorem kn_whole {u un1 un0 Y q1 r1 q0 r0 N y P : Nat} (hP : 0 < P) (hy : 0 < y) (hY : Y = y * P) (hN : N * P = (u * B32 + un1) * B32 + un0)
    (h1 : q1 = (u * B32 + un1) / Y) (hr1 : r1 = (u * B32 + un1) % Y) (h0 : q0 = (r1 * B32 + un0) / Y) (hr0 : r0 = (r1 * B32 + un0) % Y) : q1 * B32 + q0 = N / y ∧ r0 / P = N % y := by
  have hYp : 0 < Y := by rw [hY]; exact Nat.mul_pos hy hP
  have e1 := Nat.div_add_mod (u * B32 + un1) Y
  have e2 := Nat.div_add_mod (r1 * B32 + un0) Y
  rw [← h1, ← hr1] at e1
  rw [← h0, ← hr0] at e2
  have hlt : r0 < Y := by rw [hr0]; exact Nat.mod_lt _ hYp
  have hU : N * P = Y * (q1 * B32 + q0) + r0 := by
    rw [hN, ← e1, Nat.add_mul, Nat.mul_add, Nat.mul_assoc]
    omega
  have hd : N * P / Y = q1 * B32 + q0 := by
    rw [hU, Nat.mul_add_div hYp, Nat.div_eq_of_lt hlt, Nat.add_zero]
  have hm : N * P % Y = r0 := by rw [hU, Nat.mul_add_mod, Nat.mod_eq_of_lt hlt]
  constructor
  · rw [← hd, hY, Nat.mul_div_mul_right _ _ hP]
  · rw [← hm, hY, Nat.mul_mod_mul_right, Nat.mul_div_cancel _ hP]

/-- the words of a number that is moved up. -/
theorem kn_words {hi lo s y : Nat} (hs : s ≤ 63) (hl : lo < 18446744073709551616) : (hi * 18446744073709551616 + lo) * 2 ^ s = (hi * 2 ^ s + lo / 2 ^ (64 - s)) * 18446744073709551616 + lo * 2 ^ s % 18446744073709551616 := by
  have hp : (18446744073709551616 : Nat) = 2 ^ (64 - s) * 2 ^ s := by rw [← Nat.pow_add, Nat.sub_add_cancel (by omega)]
  have h2 : lo * 2 ^ s / 18446744073709551616 = lo / 2 ^ (64 - s) := by
    rw [hp, Nat.mul_div_mul_right _ _ (Nat.two_pow_pos s)]
  have h3 := Nat.div_add_mod (lo * 2 ^ s) 18446744073709551616
  rw [h2] at h3
  rw [Nat.add_mul, Nat.add_mul, Nat.mul_right_comm]
  omega

end Go.Pr
