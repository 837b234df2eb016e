/- The steps of Div64's loops. -/
import Derived.Test.YtbboklmmnnedjaaPl
set_option linter.unusedVariables false
set_option linter.unusedSimpArgs false
namespace Go.Pr

theorem st_more {q r U y1 y0 v Y qt T1 M1 : Nat} (hi : q * y1 + r = U) (hT : T1 = 4294967296 * r + v) (hM : M1 = q * y0) (h : T1 < M1) (hY : Y = y1 * B32 + y0) (hqt : qt = (U * B32 + v) / Y) : qt ≤ q - 1 := by
  rw [hqt, hY]
  exact kn_pred (kn_more hi (by rw [← hM]; rw [hT] at h; exact h))
theorem st_done {q r U y1 y0 v Y qt T1 M1 : Nat} (hi : q * y1 + r = U) (hT : T1 = 4294967296 * r + v) (hM : M1 = q * y0) (h : ¬ T1 < M1) (hY : Y = y1 * B32 + y0) (hY0 : 0 < Y) (hqt : qt = (U * B32 + v) / Y) (hq : qt ≤ q) : q = qt := by
  rw [hqt] at hq ⊢
  refine kn_eq hY0 ?_ hq
  rw [hY]
  exact kn_done hi (by rw [← hM]; rw [hT] at h; exact Nat.le_of_not_lt h)
theorem st_next {q q' r U y1 : Nat} (hi : q * y1 + r = U) (hq : q' + 1 = q) : q' * y1 + (r + y1) = U := by
  rw [← hi, ← hq, Nat.add_mul]; omega
theorem st_break {q q' r U y1 y0 v Y qt : Nat} (hi : q * y1 + r = U) (hq : q' + 1 = q) (hr : 4294967296 ≤ r + y1) (hq1 : q ≤ 4294967297) (h0 : y0 < 4294967296) (hY : Y = y1 * B32 + y0) (hY0 : 0 < Y) (hqt : qt = (U * B32 + v) / Y) (hle : qt ≤ q') : q' = qt := by
  rw [hqt] at hle ⊢
  refine kn_eq hY0 ?_ hle
  rw [hY]
  exact kn_break (st_next hi hq) hr (by simp only [B32]; omega) h0
theorem st_lt {U y1 y0 v Y qt : Nat} (hY : Y = y1 * B32 + y0) (hU : U < Y) (hv : v < 4294967296) (hqt : qt = (U * B32 + v) / Y) : qt < 4294967296 := by
  rw [hqt, hY]; exact kn_lt (by rw [← hY]; exact hU) hv
theorem st_start {U y1 y0 v Y q r : Nat} (hY : Y = y1 * B32 + y0) (hU : U < Y) (hv : v < 4294967296) (hy1 : 2147483648 ≤ y1) (hy0 : y0 < 4294967296) (hq : q = U / y1) (hr : r = U % y1) : q * y1 + r = U ∧ r < y1 ∧ q ≤ 4294967297 ∧ (U * B32 + v) / Y ≤ q := by
  refine ⟨?_, ?_, ?_, ?_⟩
  · rw [hq, hr, Nat.mul_comm]; exact Nat.div_add_mod _ _
  · rw [hr]; exact Nat.mod_lt _ (by omega)
  · rw [hq]; exact kn_top hy1 hy0 (by rw [← hY]; exact hU)
  · rw [hq, hY]; exact kn_start (by omega) hv

/-- the rest as the machine makes it: all wraps. -/
theorem st_rest {U v Y qt R W0 W1 W2 : Nat} (hqt : qt = (U * B32 + v) / Y) (hR : R = (U * B32 + v) % Y) (hR2 : R < 18446744073709551616) (h0 : W0 = U * 4294967296 % 18446744073709551616) (h1 : W1 = (W0 + v) % 18446744073709551616) (h2 : W2 = qt * Y % 18446744073709551616) :
    IntKind.u64.wrap ((U : Int) * 4294967296) = (W0 : Int) ∧ IntKind.u64.wrap ((W0 : Int) + (v : Int)) = (W1 : Int) ∧ IntKind.u64.wrap ((qt : Int) * (Y : Int)) = (W2 : Int) ∧ IntKind.u64.wrap ((W1 : Int) - (W2 : Int)) = (R : Int) := by
  refine ⟨?_, ?_, ?_, ?_⟩
  · rw [IntKind.wrap_u64]; omega
  · rw [IntKind.wrap_u64]; omega
  · have := wrap_mod (qt * Y)
    rw [h2]; simpa using this
  · have e := Nat.div_add_mod (U * B32 + v) Y
    rw [← hqt, ← hR, Nat.mul_comm Y] at e
    simp only [B32] at e
    rw [IntKind.wrap_u64]
    generalize qt * Y = Z at *
    omega
theorem st_quo {R y1 q r : Nat} (hR : R < 18446744073709551616) (hy : 0 < y1) (hq : q = R / y1) (hr : r = R % y1) :
    (R : Int).tdiv (y1 : Int) = (q : Int) ∧ (R : Int) / (y1 : Int) = (q : Int) ∧ IntKind.u64.wrap (q : Int) = (q : Int) ∧ IntKind.u64.wrap ((q : Int) * (y1 : Int)) = ((q * y1 : Nat) : Int) ∧ IntKind.u64.wrap ((R : Int) - (q : Int) * (y1 : Int)) = (r : Int) := by
  have hqR : q ≤ R := by rw [hq]; exact Nat.div_le_self _ _
  have e := Nat.div_add_mod R y1
  rw [← hq, ← hr, Nat.mul_comm] at e
  refine ⟨by rw [hq]; simp [Int.natCast_ediv, Int.tdiv_eq_ediv], by rw [hq]; simp, wrap_nat (by omega), ?_, ?_⟩
  · have := wrap_nat (n := q * y1) (by omega)
    simpa using this
  · have := wrap_nat (n := r) (by omega)
    rw [← this, ← e]; congr 1; simp; omega

end Go.Pr
