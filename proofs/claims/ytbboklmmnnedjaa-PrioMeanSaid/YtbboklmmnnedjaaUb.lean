/- The document's answer of layer 11, walked: gcd, rest. -/
import Derived.Test.YtbboklmmnnedjaaUa
set_option linter.unusedVariables false
set_option linter.unusedSimpArgs false
namespace Go.Proofs.Ytbboklmmnnedjaa
open Go.RowKit Go.Mk Go.Pr

set_option maxRecDepth 100000 in
set_option maxHeartbeats 1000000 in
theorem rgcd_walk (a b : Nat) (w : World) (ha : a < 18446744073709551616) (hb : b < 18446744073709551616) :
    Calls Try.prog 55 #[.int .u64 a, .int .u64 b] w fun e w' => e = .returned (.int .u64 ((Nat.gcd a b : Nat) : Int)) ∧ w' = w := by
  obtain ⟨G, hG⟩ : ∃ G, G = Nat.gcd a b := ⟨_, rfl⟩
  rw [← hG]
  have HG := Lib.hid hG
  clear hG
  go_enter Try.func55, Try.ntmps55
  go_wp2_with fail
  go_loop [0, 1] (fun xv yv => ∃ x y : Nat, xv = .int .u64 x ∧ yv = .int .u64 y ∧ x < 18446744073709551616 ∧ y < 18446744073709551616 ∧ Nat.gcd x y = G) (fun _ yv => (intOf yv).toNat)
  case atStart => exact ⟨a, b, rfl, rfl, ha, hb, HG.out.symm⟩
  case round =>
    obtain ⟨x, y, rfl, rfl, hx, hy, hg⟩ := hrel
    by_cases h0 : y = 0
    · have t1 : decide ((0 : Int) < (y : Int)) = false := decide_eq_false (by omega)
      have hxG : x = G := by rw [h0, Nat.gcd_zero_right] at hg; exact hg
      subst hxG
      clear hg HG
      go_wp2_with fail
      go_ret
      exact ⟨rfl, rfl⟩
    · have t1 : decide ((0 : Int) < (y : Int)) = true := decide_eq_true (by omega)
      have hpos : 0 < y := by omega
      have hm : x % y < y := Nat.mod_lt _ hpos
      have hgx : Nat.gcd y (x % y) = G := by rw [← hg, Nat.gcd_comm x y, Nat.gcd_rec y x]; exact Nat.gcd_comm _ _
      have Hg := Lib.hid hgx
      clear hgx hg h0
      go_wp2_with fail
      go_round
      case rel => exact ⟨y, x % y, rfl, by go_num, hy, by omega, Hg.out⟩
      case measure => simp [intOf]; omega

/-- The bits of a number of two words. -/
theorem bit_low {hi lo i : Nat} (hl : lo < 2 ^ 64) (hi2 : i < 64) : (hi * 2 ^ 64 + lo) / 2 ^ i % 2 = lo / 2 ^ i % 2 := by
  have h1 : hi * 2 ^ 64 + lo = lo + 2 ^ i * (hi * 2 ^ (64 - i)) := by
    have : 2 ^ 64 = 2 ^ i * 2 ^ (64 - i) := by rw [← Nat.pow_add]; congr 1; omega
    rw [this, Nat.add_comm, Nat.mul_left_comm]
  rw [h1, Nat.add_mul_div_left _ _ (Nat.two_pow_pos i)]
  have h2 : hi * 2 ^ (64 - i) = 2 * (hi * 2 ^ (63 - i)) := by
    rw [show 64 - i = (63 - i) + 1 by omega, Nat.pow_succ]
    rw [← Nat.mul_assoc, Nat.mul_comm]
  rw [h2, Nat.add_mul_mod_self_left]
theorem bit_high {hi lo i : Nat} (hl : lo < 2 ^ 64) (hi2 : 64 ≤ i) : (hi * 2 ^ 64 + lo) / 2 ^ i % 2 = hi / 2 ^ (i - 64) % 2 := by
  have h1 : 2 ^ i = 2 ^ 64 * 2 ^ (i - 64) := by rw [← Nat.pow_add]; congr 1; omega
  rw [h1, ← Nat.div_div_eq_div_mul]
  have h2 : (hi * 2 ^ 64 + lo) / 2 ^ 64 = hi := by
    rw [Nat.add_comm, Nat.add_mul_div_right _ _ (Nat.two_pow_pos 64), Nat.div_eq_of_lt hl, Nat.zero_add]
  rw [h2]
theorem bit_step (X n : Nat) : X / 2 ^ n = 2 * (X / 2 ^ (n + 1)) + X / 2 ^ n % 2 := by
  rw [Nat.pow_succ, ← Nat.div_div_eq_div_mul]
  omega

theorem and_one_nat {x p : Nat} (hx : x < 18446744073709551616) : bits BinOp.and IntKind.u64 ((x : Int) / 2 ^ p) 1 = ((x / 2 ^ p % 2 : Nat) : Int) := by
  have e : (x : Int) / 2 ^ p = ((x / 2 ^ p : Nat) : Int) := by simp
  have hle : x / 2 ^ p ≤ x := Nat.div_le_self _ _
  rw [e]
  generalize x / 2 ^ p = m at *
  rw [and_one_u64 _ (by omega) (by omega)]
  omega

theorem rest_fin {X q y r i B : Nat} {v : Int} (hq : X / 2 ^ (i + 1) = q * y + r) (hB : X / 2 ^ i % 2 = B) (hr : r < y) (hn : i + 1 ≤ 128) (h : (v = 2 * (r : Int) + B ∧ 2 * r + B < y) ∨ (v = 2 * (r : Int) + B - y ∧ y ≤ 2 * r + B)) :
    ∃ r_1 n : Nat, Value.int .u64 v = .int .u64 r_1 ∧ Value.int .i64 ((i : Int) - 1) = .int .i64 ((n : Int) - 1) ∧ n ≤ 128 ∧ r_1 < y ∧ ∃ q, X / 2 ^ n = q * y + r_1 := by
  have hs := bit_step X i
  rw [hq, hB] at hs
  have hB2 : B < 2 := by rw [← hB]; exact Nat.mod_lt _ (by omega)
  rcases h with ⟨h1, h2⟩ | ⟨h1, h2⟩
  · refine ⟨2 * r + B, i, by rw [h1]; simp, rfl, by omega, h2, 2 * q, ?_⟩
    rw [hs, Nat.mul_add, ← Nat.mul_assoc]; omega
  · refine ⟨2 * r + B - y, i, by rw [h1]; congr 1; omega, rfl, by omega, by omega, 2 * q + 1, ?_⟩
    rw [hs, Nat.mul_add, ← Nat.mul_assoc, Nat.add_mul, Nat.one_mul]; omega

set_option maxRecDepth 100000 in
set_option maxHeartbeats 1000000 in
theorem rrest_walk (hi lo y : Nat) (w : World) (hh : hi < 18446744073709551616) (hl : lo < 18446744073709551616) (hy : y < 18446744073709551616) (hy0 : 0 < y) :
    Calls Try.prog 56 #[.int .u64 hi, .int .u64 lo, .int .u64 y] w fun e w' => e = .returned (.int .u64 (((hi * 18446744073709551616 + lo) % y : Nat) : Int)) ∧ w' = w := by
  obtain ⟨X, hX⟩ : ∃ X, X = hi * 18446744073709551616 + lo := ⟨_, rfl⟩
  rw [← hX]
  have HX := Lib.hid hX
  have hXb : X < 2 ^ 128 := by rw [hX]; omega
  have HXb := Lib.hid hXb
  clear hX hXb
  go_enter Try.func56, Try.ntmps56
  go_wp2_with fail
  go_loop [7, 8] (fun rv iv => ∃ r n : Nat, rv = .int .u64 r ∧ iv = .int .i64 ((n : Int) - 1) ∧ n ≤ 128 ∧ r < y ∧ ∃ q, X / 2 ^ n = q * y + r) (fun _ iv => (intOf iv + 1).toNat)
  case atStart => exact ⟨0, 128, rfl, rfl, Nat.le_refl _, hy0, 0, by rw [Nat.div_eq_of_lt HXb.out]; simp⟩
  case round =>
    obtain ⟨r, n, rfl, rfl, hn, hr, q, hq⟩ := hrel
    have Hq := Lib.hid hq
    clear hq
    by_cases hn0 : n = 0
    · subst hn0
      have e1 : ((0 : Nat) : Int) - 1 = -1 := rfl
      have hr2 : X % y = r := by
        have h1 := Hq.out
        rw [Nat.pow_zero, Nat.div_one] at h1
        rw [h1, Nat.mul_comm, Nat.mul_add_mod, Nat.mod_eq_of_lt hr]
      rw [e1]
      have Hr2 : Hid ((X : Int) % (y : Int) = (r : Int)) := Lib.hid (by rw [← hr2]; simp)
      clear hr2 e1
      go_wp2_with fail
      go_ret
      exact ⟨by rw [Hr2.out]; rfl, rfl⟩
    · obtain ⟨i, rfl⟩ : ∃ i, n = i + 1 := ⟨n - 1, by omega⟩
      have e1 : ((i + 1 : Nat) : Int) - 1 = (i : Int) := by omega
      rw [e1]
      by_cases h64 : 64 ≤ i
      · have hbit : X / 2 ^ i % 2 = hi / 2 ^ (i - 64) % 2 := by rw [HX.out]; exact bit_high hl h64
        have hand := and_one_nat (x := hi) (p := i - 64) hh
        have t1 : decide ((64 : Int) ≤ (i : Int)) = true := decide_eq_true (by omega)
        have t1' : decide (64 ≤ i) = true := decide_eq_true (by omega)
        rcases Nat.mod_two_eq_zero_or_one (hi / 2 ^ (i - 64)) with hB | hB
        all_goals
          rw [hB] at hand hbit
          have HB := Lib.hid hbit
          have hand2 : bits BinOp.and IntKind.u64 ((lo : Int) / 2 ^ (i % 64)) 1 = ((lo / 2 ^ (i % 64) % 2 : Nat) : Int) := and_one_nat hl
          clear hbit hB hn0
          go_wp2_with fail
          all_goals
            refine ⟨rest_fin Hq.out HB.out hr hn ?_, ?_⟩
            · simp only [beq_iff_eq, beq_eq_false_iff_ne, ne_eq] at *
              omega
            · first | (simp [intOf]; done) | (simp [intOf]; omega)
      · have hbit : X / 2 ^ i % 2 = lo / 2 ^ (i % 64) % 2 := by rw [HX.out, Nat.mod_eq_of_lt (by omega : i < 64)]; exact bit_low hl (by omega)
        have hand := and_one_nat (x := lo) (p := i % 64) hl
        have t1 : decide ((64 : Int) ≤ (i : Int)) = false := decide_eq_false (by omega)
        have t1' : decide (64 ≤ i) = false := decide_eq_false (by omega)
        rcases Nat.mod_two_eq_zero_or_one (lo / 2 ^ (i % 64)) with hB | hB
        all_goals
          rw [hB] at hand hbit
          have HB := Lib.hid hbit
          clear hbit hB hn0
          go_wp2_with fail
          all_goals
            refine ⟨rest_fin Hq.out HB.out hr hn ?_, ?_⟩
            · simp only [beq_iff_eq, beq_eq_false_iff_ne, ne_eq] at *
              omega
            · first | (simp [intOf]; done) | (simp [intOf]; omega)

end Go.Proofs.Ytbboklmmnnedjaa
