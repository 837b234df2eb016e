/- The document's answer of layer 11, walked: over. -/
import Derived.Test.YtbboklmmnnedjaaUb
set_option linter.unusedVariables false
set_option linter.unusedSimpArgs false
namespace Go.Proofs.Ytbboklmmnnedjaa
open Go.RowKit Go.Mk Go.Pr

theorem over_fin {X q y r i B : Nat} {u v : Int} (hq : X / 2 ^ (i + 1) = q * y + r) (hB : X / 2 ^ i % 2 = B) (hr : r < y) (hn : i + 1 ≤ 64) (h : (v = 2 * (r : Int) + B ∧ u = 2 * (q : Int) ∧ 2 * r + B < y) ∨ (v = 2 * (r : Int) + B - y ∧ u = 2 * (q : Int) + 1 ∧ y ≤ 2 * r + B)) :
    ∃ q' r_1 n : Nat, Value.int .u64 u = .int .u64 q' ∧ Value.int .u64 v = .int .u64 r_1 ∧ Value.int .i64 ((i : Int) - 1) = .int .i64 ((n : Int) - 1) ∧ n ≤ 64 ∧ r_1 < y ∧ X / 2 ^ n = q' * y + r_1 := by
  have hs := bit_step X i
  rw [hq, hB] at hs
  have hB2 : B < 2 := by rw [← hB]; exact Nat.mod_lt _ (by omega)
  rcases h with ⟨h1, h3, h2⟩ | ⟨h1, h3, h2⟩
  · refine ⟨2 * q, 2 * r + B, i, by rw [h3]; simp, by rw [h1]; simp, rfl, by omega, h2, ?_⟩
    rw [hs, Nat.mul_add, ← Nat.mul_assoc]; omega
  · refine ⟨2 * q + 1, 2 * r + B - y, i, by rw [h3]; simp, by rw [h1]; congr 1; omega, rfl, by omega, by omega, ?_⟩
    rw [hs, Nat.mul_add, ← Nat.mul_assoc, Nat.add_mul, Nat.one_mul]; omega

theorem over_small {X q y r i : Nat} (hq : X / 2 ^ (i + 1) = q * y + r) (hX : X < y * 18446744073709551616) : q < 9223372036854775808 := by
  have h1 : X / 2 ^ (i + 1) ≤ X / 2 := by
    rw [Nat.pow_succ, Nat.mul_comm, ← Nat.div_div_eq_div_mul]
    exact Nat.div_le_self _ _
  by_cases h : q < 9223372036854775808
  · exact h
  · exfalso
    have h2 : 9223372036854775808 * y ≤ q * y := Nat.mul_le_mul_right y (by omega)
    omega

set_option maxRecDepth 100000 in
set_option maxHeartbeats 2000000 in
theorem rover_walk (hi lo y : Nat) (w : World) (hh : hi < 18446744073709551616) (hl : lo < 18446744073709551616) (hy : y < 18446744073709551616) :
    Calls Try.prog 57 #[.int .u64 hi, .int .u64 lo, .int .u64 y] w fun e w' => e = .returned (.int .u64 ((overN hi lo y : Nat) : Int)) ∧ w' = w := by
  by_cases hc : y ≤ hi
  · have hO : overN hi lo y = 18446744073709551615 := if_pos hc
    have t1 : decide ((y : Int) ≤ (hi : Int)) = true := decide_eq_true (by omega)
    have t1' : decide (y ≤ hi) = true := decide_eq_true (by omega)
    rw [hO]
    clear hO
    go_enter Try.func57, Try.ntmps57
    go_wp2_with fail
    go_ret
    exact ⟨rfl, rfl⟩
  · have hO : overN hi lo y = (hi * 18446744073709551616 + lo) / y := if_neg hc
    have t1 : decide ((y : Int) ≤ (hi : Int)) = false := decide_eq_false (by omega)
    have t1' : decide (y ≤ hi) = false := decide_eq_false (by omega)
    rw [hO]
    clear hO
    have hy0 : 0 < y := by omega
    obtain ⟨X, hX⟩ : ∃ X, X = hi * 18446744073709551616 + lo := ⟨_, rfl⟩
    rw [← hX]
    have HX := Lib.hid hX
    have hXb : X < y * 18446744073709551616 := by
      rw [hX]
      have : (hi + 1) * 18446744073709551616 ≤ y * 18446744073709551616 := Nat.mul_le_mul_right _ (by omega)
      omega
    have hX64 : X / 2 ^ 64 = 0 * y + hi := by rw [hX]; omega
    have HXb := Lib.hid (And.intro hXb hX64)
    clear hX hXb hX64
    have hhy : hi < y := by omega
    go_enter Try.func57, Try.ntmps57
    go_wp2_with fail
    go_loop [7, 8, 9] (fun qv rv iv => ∃ q r n : Nat, qv = .int .u64 q ∧ rv = .int .u64 r ∧ iv = .int .i64 ((n : Int) - 1) ∧ n ≤ 64 ∧ r < y ∧ X / 2 ^ n = q * y + r) (fun _ _ iv => (intOf iv + 1).toNat)
    case atStart => exact ⟨0, hi, 64, rfl, rfl, rfl, Nat.le_refl _, hhy, HXb.out.2⟩
    case round =>
      obtain ⟨q, r, n, rfl, rfl, rfl, hn, hr, hq⟩ := hrel
      have Hq := Lib.hid hq
      clear hq
      by_cases hn0 : n = 0
      · subst hn0
        have e1 : ((0 : Nat) : Int) - 1 = -1 := rfl
        have hr2 : X / y = q := by
          have h1 := Hq.out
          rw [Nat.pow_zero, Nat.div_one] at h1
          rw [h1, Nat.add_comm, Nat.add_mul_div_right _ _ hy0, Nat.div_eq_of_lt hr, Nat.zero_add]
        rw [e1]
        have Hr2 : Hid ((X : Int) / (y : Int) = (q : Int)) := Lib.hid (by rw [← hr2]; simp)
        clear hr2 e1
        go_wp2_with fail
        go_ret
        exact ⟨by rw [Hr2.out]; rfl, rfl⟩
      · obtain ⟨i, rfl⟩ : ∃ i, n = i + 1 := ⟨n - 1, by omega⟩
        have e1 : ((i + 1 : Nat) : Int) - 1 = (i : Int) := by omega
        rw [e1]
        have hqs := over_small Hq.out HXb.out.1
        have hbit : X / 2 ^ i % 2 = lo / 2 ^ i % 2 := by rw [HX.out]; exact bit_low hl (by omega)
        have hand := and_one_nat (x := lo) (p := i) hl
        rcases Nat.mod_two_eq_zero_or_one (lo / 2 ^ i) with hB | hB
        all_goals
          rw [hB] at hand hbit
          have HB := Lib.hid hbit
          clear hbit hB hn0
          go_wp2_with fail
          all_goals
            refine ⟨over_fin Hq.out HB.out hr hn ?_, ?_⟩
            · simp only [beq_iff_eq, beq_eq_false_iff_ne, ne_eq] at *
              simp only [true_and, and_true]
              omega
            · first | (simp [intOf]; done) | (simp [intOf]; omega)

end Go.Proofs.Ytbboklmmnnedjaa
