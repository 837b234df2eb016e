/- math/bits.Div64 in one, Rem64; prio's over. -/
import Derived.Test.YtbboklmmnnedjaaPi
set_option linter.unusedVariables false
set_option linter.unusedSimpArgs false
namespace Go.Proofs.Ytbboklmmnnedjaa
open Go.RowKit Go.Mk Go.Pr

theorem div64 {w : World} (hi lo y : Nat) (hy : hi < y) (hy2 : y < 18446744073709551616) (hl : lo < 18446744073709551616) :
    Calls Try.prog 44 #[.int .u64 hi, .int .u64 lo, .int .u64 y] w fun e w' => e = .returned (.tuple #[.int .u64 ((hi * 18446744073709551616 + lo) / y : Nat), .int .u64 ((hi * 18446744073709551616 + lo) % y : Nat)]) ∧ Only [] w w' := by
  rcases Nat.eq_zero_or_pos hi with h0 | h0
  · subst h0
    have := div_low (w := w) lo y hy hy2 hl
    simpa using this
  · exact div_wide hi lo y h0 hy hy2 hl

theorem rem64 {w : World} (hi lo y : Nat) (hy : 0 < y) (hh : hi < 18446744073709551616) (hy2 : y < 18446744073709551616) (hl : lo < 18446744073709551616) :
    Calls Try.prog 35 #[.int .u64 hi, .int .u64 lo, .int .u64 y] w fun e w' => e = .returned (.int .u64 ((hi * 18446744073709551616 + lo) % y : Nat)) ∧ Only [] w w' := by
  obtain ⟨m, hm⟩ : ∃ m, m = hi % y := ⟨_, rfl⟩
  have hmy : m < y := by rw [hm]; exact Nat.mod_lt _ hy
  have f1 : (hi : Int) % (y : Int) = (m : Int) := by rw [hm]; simp
  have f2 : (hi : Int).tmod (y : Int) = (m : Int) := by rw [hm]; simp [Int.tmod_eq_emod_of_nonneg]
  have hr : (m * 18446744073709551616 + lo) % y = (hi * 18446744073709551616 + lo) % y := by
    rw [hm, Nat.add_mod, Nat.mul_mod, Nat.mod_mod, ← Nat.mul_mod, ← Nat.add_mod]
  have cD := fun w' => div64 (w := w') m lo y hmy hy2 hl
  rw [hr] at cD
  have HD := Lib.hid cD
  clear cD hr hm
  go_enter Try.func35, Try.ntmps35
  go_wp2_with fail
  all_goals (refine (HD.out _).mono ?_; rintro e w1 ⟨rfl, o1⟩)
  all_goals go_wp2_with fail
  all_goals go_ret
  all_goals exact ⟨rfl, by first | assumption | exact Only.trans (a := w) ((Only.refl _ _).drew) (by assumption)⟩

/-- The whole part of a number of two words by another one; the greatest, if that is more. -/
def overN (hi lo by_ : Nat) : Nat := if by_ ≤ hi then 18446744073709551615 else (hi * 18446744073709551616 + lo) / by_

theorem over_walk {w : World} (hi lo y : Nat) (hh : hi < 18446744073709551616) (hy2 : y < 18446744073709551616) (hl : lo < 18446744073709551616) :
    Calls Try.prog 36 #[.agg #[.int .u64 hi, .int .u64 lo], .int .u64 y] w fun e w' => e = .returned (.int .u64 (overN hi lo y : Nat)) ∧ Only [] w w' := by
  by_cases h : y ≤ hi
  · have g1 : decide ((y : Int) ≤ hi) = true := decide_eq_true (by omega)
    have g2 : (y : Int) ≤ hi := by omega
    have hO : overN hi lo y = 18446744073709551615 := if_pos h
    have O1 : Only [] w (w.alloc (.cells #[.int .u64 hi, .int .u64 lo] 75)) := (Only.refl _ _).alloc _
    go_enter Try.func36, Try.ntmps36
    go_wp2_with fail
    go_ret
    exact ⟨by rw [hO]; rfl, by first | exact O1 | exact O1.drew⟩
  · have g1 : decide ((y : Int) ≤ hi) = false := decide_eq_false (by omega)
    have g2 : ¬ (y : Int) ≤ hi := by omega
    have hO : overN hi lo y = (hi * 18446744073709551616 + lo) / y := if_neg h
    have O1 : Only [] w (w.alloc (.cells #[.int .u64 hi, .int .u64 lo] 75)) := (Only.refl _ _).alloc _
    have cD := fun w' => div64 (w := w') hi lo y (by omega) hy2 hl
    have HD := Lib.hid cD
    have HO := Lib.hid O1
    clear cD O1
    go_enter Try.func36, Try.ntmps36
    go_wp2_with fail
    all_goals (refine (HD.out _).mono ?_; rintro e w1 ⟨rfl, o1⟩)
    all_goals go_wp2_with fail
    all_goals go_ret
    all_goals exact ⟨by rw [hO]; simp, by first | exact HO.out.trans o1 | exact HO.out.drew.trans o1⟩

end Go.Proofs.Ytbboklmmnnedjaa
