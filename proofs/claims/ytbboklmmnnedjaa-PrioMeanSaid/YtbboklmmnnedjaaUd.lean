/- The document's answer of layer 11, walked: counts. -/
import Derived.Test.YtbboklmmnnedjaaUc
set_option linter.unusedVariables false
set_option linter.unusedSimpArgs false
namespace Go.Proofs.Ytbboklmmnnedjaa
open Go.RowKit Go.Mk Go.Pr

/-- The last part: all and the next one are known. -/
theorem countN_of (m W D x A B : Nat) (hA : allN m W = A) (hB : nextN x D = B) (p q : Nat) : countN m ⟨x, p, q⟩ ⟨W, D, q⟩ = if A ≤ B then (x, 1) else if D + 1 = big then (W, 1) else (overN (A / big) (A % big) (Nat.gcd (D + 1) (A % (D + 1))), (D + 1) / Nat.gcd (D + 1) (A % (D + 1))) := by
  subst hA hB
  rfl

set_option maxRecDepth 100000 in
set_option maxHeartbeats 4000000 in
theorem rcounts_walk (x W D m : Nat) (w : World) (hx : x < big) (hW : W < big) (hD : D < big) (hm : m < big) :
    Calls Try.prog 40 #[.int .u64 x, .agg #[.int .u64 W, .int .u64 D], .int .u64 m] w fun e w' => e = .returned (.tuple #[.int .u64 ((countN m ⟨x, 0, 0⟩ ⟨W, D, 0⟩).1 : Nat), .int .u64 ((countN m ⟨x, 0, 0⟩ ⟨W, D, 0⟩).2 : Nat)]) ∧ Only [] w w' := by
  have C1 := Lib.hid (fun Wd => rtimes_walk W m Wd hW hm)
  have C2 := Lib.hid (fun Wd => rproduct_walk x D Wd hx hD)
  obtain ⟨A, hA⟩ : ∃ A, allN m W = A := ⟨_, rfl⟩
  obtain ⟨B, hB⟩ : ∃ B, nextN x D = B := ⟨_, rfl⟩
  rw [countN_of m W D x A B hA hB]
  rw [hB] at C2
  have hAm : A / big * big + A % big = A := by rw [Nat.mul_comm]; exact Nat.div_add_mod _ _
  have hl := @wide_lt A B
  have hA2 : A < big * big := by
    rw [← hA]
    unfold allN
    split
    · exact Nat.mul_lt_mul_of_pos_right hW (by decide)
    · exact mul_lt hW hm
  have hA1 : A / big < big := Nat.div_lt_of_lt_mul hA2
  have hA0 : A % big < big := Nat.mod_lt _ (by decide)
  have hC1 : m = 0 ∨ (m ≠ 0 ∧ W * m = A) := by
    by_cases h0 : m = 0
    · exact .inl h0
    · refine .inr ⟨h0, ?_⟩
      rw [← hA]; unfold allN; rw [if_neg h0]
  have hC0 : m = 0 → A / big = W ∧ A % big = 0 := by
    intro h0
    have : A = W * big := by rw [← hA]; unfold allN; rw [if_pos h0]
    rw [this]
    exact ⟨Nat.mul_div_cancel _ (by decide), Nat.mul_mod_left _ _⟩
  have oW : Only [] w (w.alloc (.cells #[.int .u64 W, .int .u64 D] 93)) := (Only.refl _ _).alloc _
  have HO := Lib.hid oW
  clear oW hB hA2
  obtain ⟨A1, hA1e⟩ : ∃ x, x = A / big := ⟨_, rfl⟩
  obtain ⟨A0, hA0e⟩ : ∃ x, x = A % big := ⟨_, rfl⟩
  rw [← hA1e] at hAm hA1 hC0 hl ⊢
  rw [← hA0e] at hAm hA0 hC0 hl ⊢
  generalize B / big = B1 at *
  generalize B % big = B0 at *
  have hz : (m = 0 → A1 = W ∧ A0 = 0) ∧ (m ≠ 0 → W * m / big = A1 ∧ W * m % big = A0) := ⟨hC0, fun h0 => by
    rcases hC1 with h | ⟨_, h⟩
    · exact absurd h h0
    · rw [h, hA1e, hA0e]; exact ⟨rfl, rfl⟩⟩
  have Hz := Lib.hid (And.intro hz hAm)
  have Hl := Lib.hid hl
  clear hz hC0 hC1 hAm hl hA1e hA0e hA
  generalize hT1 : W * m / big = T1 at *
  generalize hT0 : W * m % big = T0 at *
  clear hT1 hT0
  unfold big at hx hW hD hm hA1 hA0
  by_cases hm0 : m = 0
  · obtain ⟨rfl, rfl⟩ := Hz.out.1.1 hm0
    have tm : ((m : Int) == 0) = true := by rw [beq_iff_eq]; omega
    clear hm0
    rcases Nat.lt_trichotomy A1 B1 with hc | hc | hc
    · have hab : A ≤ B := Nat.le_of_not_lt (fun h => by rcases Hl.out.2 h with h1 | h1 <;> omega)
      rw [if_pos hab]
      have t1 : decide ((A1 : Int) < (B1 : Int)) = true := decide_eq_true (by omega)
      have t1' : decide (A1 < B1) = true := decide_eq_true hc
      clear hab Hl hc
      go_enter Try.func40, Try.ntmps40
      go_wp2_with fail
      refine (C1.out _).mono ?_
      rintro e w1 ⟨rfl, rfl⟩
      go_wp2_with fail
      refine (C2.out _).mono ?_
      rintro e w1 ⟨rfl, rfl⟩
      go_wp2_with fail
      go_ret2
      exact ⟨rfl, HO.out⟩
    · have t1 : decide ((A1 : Int) < (B1 : Int)) = false := decide_eq_false (by omega)
      have t1' : decide (A1 < B1) = false := decide_eq_false (by omega)
      have t2 : ((B1 : Int) == (A1 : Int)) = true := by rw [beq_iff_eq]; omega
      by_cases hc0 : 0 ≤ B0
      · have hab : A ≤ B := Nat.le_of_not_lt (fun h => by rcases Hl.out.2 h with h1 | h1 <;> omega)
        rw [if_pos hab]
        have t3 : decide (((0 : Nat) : Int) ≤ (B0 : Int)) = true := decide_eq_true (by omega)
        have t3' : decide (0 ≤ B0) = true := decide_eq_true hc0
        clear hab Hl hc hc0
        go_enter Try.func40, Try.ntmps40
        go_wp2_with fail
        refine (C1.out _).mono ?_
        rintro e w1 ⟨rfl, rfl⟩
        go_wp2_with fail
        refine (C2.out _).mono ?_
        rintro e w1 ⟨rfl, rfl⟩
        go_wp2_with fail
        go_ret2
        exact ⟨rfl, HO.out⟩
      · exact absurd (Nat.zero_le _) hc0
    · have hab : ¬ A ≤ B := by have := Hl.out.1 (.inl hc); omega
      rw [if_neg hab]
      have t1 : decide ((A1 : Int) < (B1 : Int)) = false := decide_eq_false (by omega)
      have t1' : decide (A1 < B1) = false := decide_eq_false (by omega)
      have t2 : ((B1 : Int) == (A1 : Int)) = false := by rw [beq_eq_false_iff_ne]; omega
      clear hab Hl hc
      by_cases hd1 : D + 1 = big
      · rw [if_pos hd1]
        have td : ((D : Int) == 18446744073709551615) = true := by rw [beq_iff_eq]; unfold big at hd1; omega
        clear hd1
        go_enter Try.func40, Try.ntmps40
        go_wp2_with fail
        refine (C1.out _).mono ?_
        rintro e w1 ⟨rfl, rfl⟩
        go_wp2_with fail
        refine (C2.out _).mono ?_
        rintro e w1 ⟨rfl, rfl⟩
        go_wp2_with fail
        go_ret2
        exact ⟨rfl, HO.out⟩
      · rw [if_neg hd1]
        have td : ((D : Int) == 18446744073709551615) = false := by rw [beq_eq_false_iff_ne]; unfold big at hd1; omega
        obtain ⟨E, hE⟩ : ∃ E, E = D + 1 := ⟨_, rfl⟩
        rw [← hE]
        have hE0 : 0 < E := by omega
        have hEb : E < 18446744073709551616 := by unfold big at *; omega
        have hwE : IntKind.u64.wrap ((D : Int) + 1) = (E : Int) := by rw [wrap_u64]; omega
        have hR := fun Wd => rrest_walk A1 0 E Wd hA1 (by decide : 0 < big) hEb hE0
        have hAe : A1 * 18446744073709551616 + 0 = A := Hz.out.2
        rw [hAe] at hR
        have hRl : A % E < E := Nat.mod_lt _ hE0
        have hGp : 0 < Nat.gcd E (A % E) := Nat.gcd_pos_of_pos_left _ hE0
        have hGl : Nat.gcd E (A % E) ≤ E := Nat.gcd_le_left _ hE0
        have hG := fun Wd => rgcd_walk E (A % E) Wd hEb (by omega)
        generalize A % E = R at *
        generalize Nat.gcd E R = G at *
        have hOv := fun Wd => rover_walk A1 0 G Wd hA1 (by decide : 0 < big) (by omega)
        have CR := Lib.hid hR
        have CG := Lib.hid hG
        have CO := Lib.hid hOv
        have kx : ((G : Int) == 0) = false := by rw [beq_eq_false_iff_ne]; omega
        have kx0 : ¬ G = 0 := by omega
        have hq2 : ((E : Int) / (G : Int)) = ((E / G : Nat) : Int) := by simp
        have hq1 : E / G ≤ E := Nat.div_le_self _ _
        have kq : IntKind.u64.wrap ((E : Int) / (G : Int)) = ((E / G : Nat) : Int) := by
          rw [hq2, wraps_u64 _ (Int.natCast_nonneg _) (Int.lt_of_le_of_lt (Int.ofNat_le.2 hq1) (by omega))]
        clear hR hG hOv hd1 hE hAe hq2 hq1
        go_enter Try.func40, Try.ntmps40
        go_wp2_with fail
        refine (C1.out _).mono ?_
        rintro e w1 ⟨rfl, rfl⟩
        go_wp2_with fail
        refine (C2.out _).mono ?_
        rintro e w1 ⟨rfl, rfl⟩
        go_wp2_with fail
        refine (CR.out _).mono ?_
        rintro e w1 ⟨rfl, rfl⟩
        go_wp2_with fail
        refine (CG.out _).mono ?_
        rintro e w1 ⟨rfl, rfl⟩
        go_wp2_with fail
        go_region_with (go_at_call 57; refine (CO.out _).mono ?_; rintro e w1 ⟨rfl, rfl⟩)
        all_goals go_wp2_with fail
        all_goals go_ret2
        all_goals exact ⟨by first | rfl | simp, by first | exact HO.out | exact HO.out.drew⟩
  · obtain ⟨rfl, rfl⟩ := Hz.out.1.2 hm0
    have tm : ((m : Int) == 0) = false := by rw [beq_eq_false_iff_ne]; omega
    clear hm0
    rcases Nat.lt_trichotomy T1 B1 with hc | hc | hc
    · have hab : A ≤ B := Nat.le_of_not_lt (fun h => by rcases Hl.out.2 h with h1 | h1 <;> omega)
      rw [if_pos hab]
      have t1 : decide ((T1 : Int) < (B1 : Int)) = true := decide_eq_true (by omega)
      have t1' : decide (T1 < B1) = true := decide_eq_true hc
      clear hab Hl hc
      go_enter Try.func40, Try.ntmps40
      go_wp2_with fail
      refine (C1.out _).mono ?_
      rintro e w1 ⟨rfl, rfl⟩
      go_wp2_with fail
      refine (C2.out _).mono ?_
      rintro e w1 ⟨rfl, rfl⟩
      go_wp2_with fail
      go_ret2
      exact ⟨rfl, HO.out⟩
    · have t1 : decide ((T1 : Int) < (B1 : Int)) = false := decide_eq_false (by omega)
      have t1' : decide (T1 < B1) = false := decide_eq_false (by omega)
      have t2 : ((B1 : Int) == (T1 : Int)) = true := by rw [beq_iff_eq]; omega
      by_cases hc0 : T0 ≤ B0
      · have hab : A ≤ B := Nat.le_of_not_lt (fun h => by rcases Hl.out.2 h with h1 | h1 <;> omega)
        rw [if_pos hab]
        have t3 : decide ((T0 : Int) ≤ (B0 : Int)) = true := decide_eq_true (by omega)
        have t3' : decide (T0 ≤ B0) = true := decide_eq_true hc0
        clear hab Hl hc hc0
        go_enter Try.func40, Try.ntmps40
        go_wp2_with fail
        refine (C1.out _).mono ?_
        rintro e w1 ⟨rfl, rfl⟩
        go_wp2_with fail
        refine (C2.out _).mono ?_
        rintro e w1 ⟨rfl, rfl⟩
        go_wp2_with fail
        go_ret2
        exact ⟨rfl, HO.out⟩
      · have hab : ¬ A ≤ B := by have := Hl.out.1 (.inr ⟨hc, by omega⟩); omega
        rw [if_neg hab]
        have t3 : decide ((T0 : Int) ≤ (B0 : Int)) = false := decide_eq_false (by omega)
        have t3' : decide (T0 ≤ B0) = false := decide_eq_false hc0
        clear hab Hl hc hc0
        by_cases hd1 : D + 1 = big
        · rw [if_pos hd1]
          have td : ((D : Int) == 18446744073709551615) = true := by rw [beq_iff_eq]; unfold big at hd1; omega
          clear hd1
          go_enter Try.func40, Try.ntmps40
          go_wp2_with fail
          refine (C1.out _).mono ?_
          rintro e w1 ⟨rfl, rfl⟩
          go_wp2_with fail
          refine (C2.out _).mono ?_
          rintro e w1 ⟨rfl, rfl⟩
          go_wp2_with fail
          go_ret2
          exact ⟨rfl, HO.out⟩
        · rw [if_neg hd1]
          have td : ((D : Int) == 18446744073709551615) = false := by rw [beq_eq_false_iff_ne]; unfold big at hd1; omega
          obtain ⟨E, hE⟩ : ∃ E, E = D + 1 := ⟨_, rfl⟩
          rw [← hE]
          have hE0 : 0 < E := by omega
          have hEb : E < 18446744073709551616 := by unfold big at *; omega
          have hwE : IntKind.u64.wrap ((D : Int) + 1) = (E : Int) := by rw [wrap_u64]; omega
          have hR := fun Wd => rrest_walk T1 T0 E Wd hA1 hA0 hEb hE0
          have hAe : T1 * 18446744073709551616 + T0 = A := Hz.out.2
          rw [hAe] at hR
          have hRl : A % E < E := Nat.mod_lt _ hE0
          have hGp : 0 < Nat.gcd E (A % E) := Nat.gcd_pos_of_pos_left _ hE0
          have hGl : Nat.gcd E (A % E) ≤ E := Nat.gcd_le_left _ hE0
          have hG := fun Wd => rgcd_walk E (A % E) Wd hEb (by omega)
          generalize A % E = R at *
          generalize Nat.gcd E R = G at *
          have hOv := fun Wd => rover_walk T1 T0 G Wd hA1 hA0 (by omega)
          have CR := Lib.hid hR
          have CG := Lib.hid hG
          have CO := Lib.hid hOv
          have kx : ((G : Int) == 0) = false := by rw [beq_eq_false_iff_ne]; omega
          have kx0 : ¬ G = 0 := by omega
          have hq2 : ((E : Int) / (G : Int)) = ((E / G : Nat) : Int) := by simp
          have hq1 : E / G ≤ E := Nat.div_le_self _ _
          have kq : IntKind.u64.wrap ((E : Int) / (G : Int)) = ((E / G : Nat) : Int) := by
            rw [hq2, wraps_u64 _ (Int.natCast_nonneg _) (Int.lt_of_le_of_lt (Int.ofNat_le.2 hq1) (by omega))]
          clear hR hG hOv hd1 hE hAe hq2 hq1
          go_enter Try.func40, Try.ntmps40
          go_wp2_with fail
          refine (C1.out _).mono ?_
          rintro e w1 ⟨rfl, rfl⟩
          go_wp2_with fail
          refine (C2.out _).mono ?_
          rintro e w1 ⟨rfl, rfl⟩
          go_wp2_with fail
          refine (CR.out _).mono ?_
          rintro e w1 ⟨rfl, rfl⟩
          go_wp2_with fail
          refine (CG.out _).mono ?_
          rintro e w1 ⟨rfl, rfl⟩
          go_wp2_with fail
          go_region_with (go_at_call 57; refine (CO.out _).mono ?_; rintro e w1 ⟨rfl, rfl⟩)
          all_goals go_wp2_with fail
          all_goals go_ret2
          all_goals exact ⟨by first | rfl | simp, by first | exact HO.out | exact HO.out.drew⟩
    · have hab : ¬ A ≤ B := by have := Hl.out.1 (.inl hc); omega
      rw [if_neg hab]
      have t1 : decide ((T1 : Int) < (B1 : Int)) = false := decide_eq_false (by omega)
      have t1' : decide (T1 < B1) = false := decide_eq_false (by omega)
      have t2 : ((B1 : Int) == (T1 : Int)) = false := by rw [beq_eq_false_iff_ne]; omega
      clear hab Hl hc
      by_cases hd1 : D + 1 = big
      · rw [if_pos hd1]
        have td : ((D : Int) == 18446744073709551615) = true := by rw [beq_iff_eq]; unfold big at hd1; omega
        clear hd1
        go_enter Try.func40, Try.ntmps40
        go_wp2_with fail
        refine (C1.out _).mono ?_
        rintro e w1 ⟨rfl, rfl⟩
        go_wp2_with fail
        refine (C2.out _).mono ?_
        rintro e w1 ⟨rfl, rfl⟩
        go_wp2_with fail
        go_ret2
        exact ⟨rfl, HO.out⟩
      · rw [if_neg hd1]
        have td : ((D : Int) == 18446744073709551615) = false := by rw [beq_eq_false_iff_ne]; unfold big at hd1; omega
        obtain ⟨E, hE⟩ : ∃ E, E = D + 1 := ⟨_, rfl⟩
        rw [← hE]
        have hE0 : 0 < E := by omega
        have hEb : E < 18446744073709551616 := by unfold big at *; omega
        have hwE : IntKind.u64.wrap ((D : Int) + 1) = (E : Int) := by rw [wrap_u64]; omega
        have hR := fun Wd => rrest_walk T1 T0 E Wd hA1 hA0 hEb hE0
        have hAe : T1 * 18446744073709551616 + T0 = A := Hz.out.2
        rw [hAe] at hR
        have hRl : A % E < E := Nat.mod_lt _ hE0
        have hGp : 0 < Nat.gcd E (A % E) := Nat.gcd_pos_of_pos_left _ hE0
        have hGl : Nat.gcd E (A % E) ≤ E := Nat.gcd_le_left _ hE0
        have hG := fun Wd => rgcd_walk E (A % E) Wd hEb (by omega)
        generalize A % E = R at *
        generalize Nat.gcd E R = G at *
        have hOv := fun Wd => rover_walk T1 T0 G Wd hA1 hA0 (by omega)
        have CR := Lib.hid hR
        have CG := Lib.hid hG
        have CO := Lib.hid hOv
        have kx : ((G : Int) == 0) = false := by rw [beq_eq_false_iff_ne]; omega
        have kx0 : ¬ G = 0 := by omega
        have hq2 : ((E : Int) / (G : Int)) = ((E / G : Nat) : Int) := by simp
        have hq1 : E / G ≤ E := Nat.div_le_self _ _
        have kq : IntKind.u64.wrap ((E : Int) / (G : Int)) = ((E / G : Nat) : Int) := by
          rw [hq2, wraps_u64 _ (Int.natCast_nonneg _) (Int.lt_of_le_of_lt (Int.ofNat_le.2 hq1) (by omega))]
        clear hR hG hOv hd1 hE hAe hq2 hq1
        go_enter Try.func40, Try.ntmps40
        go_wp2_with fail
        refine (C1.out _).mono ?_
        rintro e w1 ⟨rfl, rfl⟩
        go_wp2_with fail
        refine (C2.out _).mono ?_
        rintro e w1 ⟨rfl, rfl⟩
        go_wp2_with fail
        refine (CR.out _).mono ?_
        rintro e w1 ⟨rfl, rfl⟩
        go_wp2_with fail
        refine (CG.out _).mono ?_
        rintro e w1 ⟨rfl, rfl⟩
        go_wp2_with fail
        go_region_with (go_at_call 57; refine (CO.out _).mono ?_; rintro e w1 ⟨rfl, rfl⟩)
        all_goals go_wp2_with fail
        all_goals go_ret2
        all_goals exact ⟨by first | rfl | simp, by first | exact HO.out | exact HO.out.drew⟩

end Go.Proofs.Ytbboklmmnnedjaa
