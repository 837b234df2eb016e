/- The document's answer of layer 11, walked: times, product, Above. -/
import Derived.Test.YtbboklmmnnedjaaPx
set_option linter.unusedVariables false
set_option linter.unusedSimpArgs false
namespace Go.Pr
/-- A product by halves. -/
theorem halves {x y u v : Nat} (hx : x < 4294967296) (hy : y < 4294967296) (hu : u < 4294967296) (hv : v < 4294967296) :
    x * v ≤ 18446744065119617025 ∧ y * v ≤ 18446744065119617025 ∧ y * u ≤ 18446744065119617025 ∧ x * u ≤ 18446744065119617025 := by
  refine ⟨?_, ?_, ?_, ?_⟩
  · exact Nat.le_trans (Nat.mul_le_mul (by omega : x ≤ 4294967295) (by omega : v ≤ 4294967295)) (by decide)
  · exact Nat.le_trans (Nat.mul_le_mul (by omega : y ≤ 4294967295) (by omega : v ≤ 4294967295)) (by decide)
  · exact Nat.le_trans (Nat.mul_le_mul (by omega : y ≤ 4294967295) (by omega : u ≤ 4294967295)) (by decide)
  · exact Nat.le_trans (Nat.mul_le_mul (by omega : x ≤ 4294967295) (by omega : u ≤ 4294967295)) (by decide)
theorem halves_eq (a b : Nat) : a * b = a / 4294967296 * (b / 4294967296) * 18446744073709551616 + (a / 4294967296 * (b % 4294967296) + a % 4294967296 * (b / 4294967296)) * 4294967296 + a % 4294967296 * (b % 4294967296) := by
  have h1 := Nat.div_add_mod a 4294967296
  have h2 := Nat.div_add_mod b 4294967296
  generalize a / 4294967296 = x at *
  generalize a % 4294967296 = y at *
  generalize b / 4294967296 = u at *
  generalize b % 4294967296 = v at *
  subst h1 h2
  rw [Nat.add_mul, Nat.mul_add, Nat.mul_add]
  have e1 : 4294967296 * x * (4294967296 * u) = x * u * 18446744073709551616 := by
    rw [Nat.mul_assoc, Nat.mul_left_comm x, ← Nat.mul_assoc, Nat.mul_comm (4294967296 * 4294967296)]
  have e2 : 4294967296 * x * v = x * v * 4294967296 := by rw [Nat.mul_assoc, Nat.mul_comm]
  have e3 : y * (4294967296 * u) = y * u * 4294967296 := by rw [Nat.mul_left_comm, Nat.mul_comm]
  rw [e1, e2, e3, Nat.add_mul]
  omega
end Go.Pr

namespace Go.Proofs.Ytbboklmmnnedjaa
open Go.RowKit Go.Mk Go.Pr

theorem ret_uu {a b c d : Int} (h : a = c) (k : b = d) : Ending.returned (.tuple #[.int .u64 a, .int .u64 b]) = .returned (.tuple #[.int .u64 c, .int .u64 d]) := by rw [h, k]

set_option maxHeartbeats 1000000 in
theorem rtimes_walk (a b : Nat) (w : World) (ha : a < big) (hb : b < big) :
    Calls Try.prog 43 #[.int .u64 a, .int .u64 b] w fun e w' => e = .returned (.tuple #[.int .u64 ((a * b / big : Nat) : Int), .int .u64 ((a * b % big : Nat) : Int)]) ∧ w' = w := by
  unfold big at *
  obtain ⟨x, hx⟩ : ∃ x, x = a / 4294967296 := ⟨_, rfl⟩
  obtain ⟨y, hy⟩ : ∃ x, x = a % 4294967296 := ⟨_, rfl⟩
  obtain ⟨u, hu⟩ : ∃ x, x = b / 4294967296 := ⟨_, rfl⟩
  obtain ⟨v, hv⟩ : ∃ x, x = b % 4294967296 := ⟨_, rfl⟩
  have hp := halves_eq a b
  rw [← hx, ← hy, ← hu, ← hv] at hp
  have hx2 : x < 4294967296 := by omega
  have hy2 : y < 4294967296 := by omega
  have hu2 : u < 4294967296 := by omega
  have hv2 : v < 4294967296 := by omega
  obtain ⟨b1, b2, b3, b4⟩ := halves hx2 hy2 hu2 hv2
  have c1 : (a : Int) / 4294967296 = (x : Int) := by omega
  have c2 : (a : Int) % 4294967296 = (y : Int) := by omega
  have c3 : (b : Int) / 4294967296 = (u : Int) := by omega
  have c4 : (b : Int) % 4294967296 = (v : Int) := by omega
  have m1 : IntKind.u64.wrap ((x : Int) * (v : Int)) = ((x * v : Nat) : Int) := by rw [wrap_u64, ← Int.natCast_mul]; omega
  have m2 : IntKind.u64.wrap ((y : Int) * (v : Int)) = ((y * v : Nat) : Int) := by rw [wrap_u64, ← Int.natCast_mul]; omega
  have m3 : IntKind.u64.wrap ((y : Int) * (u : Int)) = ((y * u : Nat) : Int) := by rw [wrap_u64, ← Int.natCast_mul]; omega
  have m4 : IntKind.u64.wrap ((x : Int) * (u : Int)) = ((x * u : Nat) : Int) := by rw [wrap_u64, ← Int.natCast_mul]; omega
  generalize hP1 : x * v = P1 at *
  generalize hP2 : y * v = P2 at *
  generalize hP3 : y * u = P3 at *
  generalize hP4 : x * u = P4 at *
  have r1 : a * b / 18446744073709551616 = P4 + (P1 + P2 / 4294967296) / 4294967296 + (P3 + (P1 + P2 / 4294967296) % 4294967296) / 4294967296 := by omega
  have r2 : a * b % 18446744073709551616 = (P3 + (P1 + P2 / 4294967296) % 4294967296) % 4294967296 * 4294967296 + P2 % 4294967296 := by omega
  have hlt : P4 + (P1 + P2 / 4294967296) / 4294967296 + (P3 + (P1 + P2 / 4294967296) % 4294967296) / 4294967296 < 18446744073709551616 := by
    rw [← r1]
    exact Nat.div_lt_of_lt_mul (mul_lt ha hb)
  rw [r1, r2]
  clear r1 r2 hp hP1 hP2 hP3 hP4 hx hy hu hv
  go_enter Try.func43, Try.ntmps43
  go_wp2_with fail
  go_ret2
  exact ⟨ret_uu (by omega) (by omega), rfl⟩

set_option maxRecDepth 100000 in
theorem rproduct_walk (a d : Nat) (w : World) (ha : a < big) (hd : d < big) :
    Calls Try.prog 31 #[.int .u64 a, .int .u64 d] w fun e w' => e = .returned (.tuple #[.int .u64 ((nextN a d / big : Nat) : Int), .int .u64 ((nextN a d % big : Nat) : Int)]) ∧ w' = w := by
  have C := Lib.hid (rtimes_walk a d w ha hd)
  have hsp := @next_split a d
  have hlt := next_lt ha hd
  have hL : a * d % big < big := Nat.mod_lt _ (by decide)
  have hN : nextN a d / big < big := Nat.div_lt_of_lt_mul hlt
  have hHb : a * d / big < big := Nat.div_lt_of_lt_mul (mul_lt ha hd)
  rw [hsp.1, hsp.2]
  rw [hsp.1] at hN
  generalize a * d / big = H at *
  generalize a * d % big = L at *
  clear hsp hlt
  unfold big at *
  by_cases hc : L + a < 18446744073709551616
  · obtain ⟨M, hM⟩ : ∃ M, M = L + a := ⟨_, rfl⟩
    have m1 : IntKind.u64.wrap ((L : Int) + (a : Int)) = (M : Int) := by rw [wrap_u64]; omega
    have t1 : decide ((M : Int) < (a : Int)) = false := decide_eq_false (by omega)
    have t3 : decide (M < a) = false := decide_eq_false (by omega)
    have hMb : M < 18446744073709551616 := by omega
    have e1 : H + (L + a) / 18446744073709551616 = H := by omega
    have e2 : (L + a) % 18446744073709551616 = M := by omega
    rw [e1, e2]
    clear e1 e2 hM hc
    go_enter Try.func31, Try.ntmps31
    go_wp2_with fail
    refine C.out.mono ?_
    rintro e w' ⟨rfl, rfl⟩
    go_wp2_with fail
    go_ret2
    exact ⟨ret_uu (by omega) (by omega), rfl⟩
  · obtain ⟨M, hM⟩ : ∃ M, M = L + a - 18446744073709551616 := ⟨_, rfl⟩
    have m1 : IntKind.u64.wrap ((L : Int) + (a : Int)) = (M : Int) := by rw [wrap_u64]; omega
    have t1 : decide ((M : Int) < (a : Int)) = true := decide_eq_true (by omega)
    have t3 : decide (M < a) = true := decide_eq_true (by omega)
    have hh : H + 1 < 18446744073709551616 := by omega
    have e1 : H + (L + a) / 18446744073709551616 = H + 1 := by omega
    have e2 : (L + a) % 18446744073709551616 = M := by omega
    rw [e1, e2]
    have hMb : M < 18446744073709551616 := by omega
    clear e1 e2 hM hc
    go_enter Try.func31, Try.ntmps31
    go_wp2_with fail
    refine C.out.mono ?_
    rintro e w' ⟨rfl, rfl⟩
    go_wp2_with fail
    go_ret2
    exact ⟨ret_uu (by omega) (by omega), rfl⟩

set_option maxRecDepth 100000 in
theorem rabove_walk (a c b d : Nat) (w : World) (ha : a < big) (hc : c < big) (hb : b < big) (hd : d < big) :
    Calls Try.prog 17 #[.int .u64 a, .int .u64 c, .int .u64 b, .int .u64 d] w fun e w' => e = .returned (.bool (aboveN a c b d)) ∧ w' = w := by
  have C1 := Lib.hid (rproduct_walk a d w ha hd)
  have C2 := Lib.hid (rproduct_walk b c w hb hc)
  have hl := @wide_lt (nextN a d) (nextN b c)
  have hA : aboveN a c b d = decide (nextN b c < nextN a d) := rfl
  rw [hA]
  have hx : nextN a d = nextN a d / big * big + nextN a d % big := by rw [Nat.mul_comm]; exact (Nat.div_add_mod _ _).symm
  generalize nextN a d / big = H at *
  generalize nextN a d % big = L at *
  generalize nextN b c / big = I at *
  generalize nextN b c % big = M at *
  generalize nextN a d = X at *
  generalize nextN b c = Y at *
  clear hx hA
  by_cases h1 : I < H
  · have t1 : decide (I < H) = true := decide_eq_true h1
    have e : decide (Y < X) = true := decide_eq_true (hl.1 (.inl h1))
    rw [e]
    clear e hl
    go_enter Try.func17, Try.ntmps17
    go_wp2_with fail
    refine C1.out.mono ?_
    rintro e w' ⟨rfl, rfl⟩
    go_wp2_with fail
    refine C2.out.mono ?_
    rintro e w' ⟨rfl, rfl⟩
    go_wp2_with fail
    go_ret
    exact ⟨rfl, rfl⟩
  · have t1 : decide (I < H) = false := decide_eq_false h1
    by_cases h2 : H = I
    · have e : decide (Y < X) = decide (M < L) := by
        rw [Bool.eq_iff_iff, decide_eq_true_iff, decide_eq_true_iff, ← hl]
        constructor
        · rintro (h | h)
          · exact absurd h h1
          · exact h.2
        · exact fun h => .inr ⟨h2, h⟩
      rw [e]
      have t2 : ((H : Int) == (I : Int)) = true := beq_iff_eq.2 (by omega)
      clear e hl
      go_enter Try.func17, Try.ntmps17
      go_wp2_with fail
      refine C1.out.mono ?_
      rintro e w' ⟨rfl, rfl⟩
      go_wp2_with fail
      refine C2.out.mono ?_
      rintro e w' ⟨rfl, rfl⟩
      go_wp2_with fail
      go_ret
      exact ⟨by first | rfl | simp, rfl⟩
    · have e : decide (Y < X) = false := decide_eq_false (fun h => by
        rcases hl.2 h with h | h
        · exact h1 h
        · exact h2 h.1)
      rw [e]
      have t2 : ((H : Int) == (I : Int)) = false := beq_eq_false_iff_ne.2 (by omega)
      clear e hl
      go_enter Try.func17, Try.ntmps17
      go_wp2_with fail
      refine C1.out.mono ?_
      rintro e w' ⟨rfl, rfl⟩
      go_wp2_with fail
      refine C2.out.mono ?_
      rintro e w' ⟨rfl, rfl⟩
      go_wp2_with fail
      go_ret
      exact ⟨rfl, rfl⟩

end Go.Proofs.Ytbboklmmnnedjaa
