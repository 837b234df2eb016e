/- The words of Div64 as the machine makes them. -/
import Derived.Test.YtbboklmmnnedjaaPk
import Derived.Test.YtbboklmmnnedjaaPs
import Derived.Lib.EndianBits
import Derived.Lib.ItoaNum
set_option linter.unusedVariables false
set_option linter.unusedSimpArgs false
namespace Go.Pr

theorem clz_is {y : Nat} (h0 : 0 < y) (h : y < 18446744073709551616) : ∃ s : Nat, s ≤ 63 ∧ (64 - (Lib.bitLen y : Int)) = (s : Int) ∧ 9223372036854775808 ≤ y * 2 ^ s ∧ y * 2 ^ s < 18446744073709551616 := by
  have h3 : 1 ≤ Lib.bitLen y ∧ 2 ^ (Lib.bitLen y - 1) ≤ y ∧ y < 2 ^ Lib.bitLen y := Lib.bitLenAux_bounds 64 y (by omega) (by omega)
  obtain ⟨hb0, h2, h1⟩ := h3
  have hb : Lib.bitLen y ≤ 64 := by
    rcases Nat.lt_or_ge 64 (Lib.bitLen y) with hlt | hge
    · exfalso
      have : 2 ^ 64 ≤ 2 ^ (Lib.bitLen y - 1) := Nat.pow_le_pow_right (by omega) (by omega)
      omega
    · exact hge
  refine ⟨64 - Lib.bitLen y, by omega, by omega, ?_, ?_⟩
  · have : 2 ^ (Lib.bitLen y - 1) * 2 ^ (64 - Lib.bitLen y) ≤ y * 2 ^ (64 - Lib.bitLen y) := Nat.mul_le_mul_right _ h2
    rw [← Nat.pow_add, show Lib.bitLen y - 1 + (64 - Lib.bitLen y) = 63 by omega] at this
    omega
  · have : y * 2 ^ (64 - Lib.bitLen y) < 2 ^ Lib.bitLen y * 2 ^ (64 - Lib.bitLen y) := (Nat.mul_lt_mul_right (Nat.two_pow_pos _)).2 h1
    rw [← Nat.pow_add, show Lib.bitLen y + (64 - Lib.bitLen y) = 64 by omega] at this
    omega

theorem wrap_nat {n : Nat} (h : n < 18446744073709551616) : IntKind.u64.wrap (n : Int) = n := wraps_u64 _ (by omega) (by omega)
theorem wrap_mod (n : Nat) : IntKind.u64.wrap (n : Int) = ((n % 18446744073709551616 : Nat) : Int) := by rw [IntKind.wrap_u64]; omega
theorem and_mask {n : Nat} (h : n < 18446744073709551616) : bits .and .u64 (n : Int) 4294967295 = ((n % 4294967296 : Nat) : Int) := by
  have := (bits_nat .u64 64 (by decide) wraps_u64 n 4294967295 (by omega) (by omega)).1
  rw [show ((4294967295 : Nat) : Int) = 4294967295 from rfl] at this
  rw [this, show (4294967295 : Nat) = 2 ^ 32 - 1 from rfl, Nat.and_two_pow_sub_one_eq_mod]
theorem or_words {hi l s : Nat} (hs : s ≤ 63) (hh : hi * 2 ^ s < 18446744073709551616) (hl : l < 2 ^ s) : bits .or .u64 ((hi * 2 ^ s : Nat) : Int) (l : Int) = ((hi * 2 ^ s + l : Nat) : Int) := by
  have hl2 : l < 18446744073709551616 := Nat.lt_of_lt_of_le hl (by
    have : 2 ^ s ≤ 2 ^ 63 := Nat.pow_le_pow_right (by omega) hs
    omega)
  rw [(bits_nat .u64 64 (by decide) wraps_u64 (hi * 2 ^ s) l (by omega) (by omega)).2]
  congr 1
  rw [Nat.mul_comm hi, Nat.two_pow_add_eq_or_of_lt hl]

end Go.Pr
