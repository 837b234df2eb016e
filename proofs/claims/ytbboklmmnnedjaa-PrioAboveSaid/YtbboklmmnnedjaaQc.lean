/- The law PrioAbove, of any arguments. -/
import Derived.Test.YtbboklmmnnedjaaQb
set_option linter.unusedVariables false
set_option linter.unusedSimpArgs false
namespace Go.Proofs.Ytbboklmmnnedjaa
open Go.RowKit Go.Mk Go.Pr

theorem above_rr (a c : Nat) (hc : c < big) : aboveN a c a ((c + 1) % big) = (decide (0 < a) && decide (0 < (c + 1) % big)) := by
  rcases Nat.eq_zero_or_pos a with h0 | h0
  · subst h0
    rw [above_next0]
    simp
  · by_cases h : c + 1 = big
    · have h1 : c = big - 1 := by omega
      rw [h, Nat.mod_self, h1, above_last]
      simp
    · have h1 : (c + 1) % big = c + 1 := Nat.mod_eq_of_lt (by omega)
      rw [h1, above_next h0]
      simp [h0]

theorem above_top (a0 a1 a2 a3 a4 a5 a6 a7 : Int) (w : World) (w0 : (Lit.int .u64 a0).wf = true) (w1 : (Lit.int .u64 a1).wf = true) (w2 : (Lit.int .u64 a2).wf = true) (w3 : (Lit.int .u64 a3).wf = true)
    (w4 : (Lit.int .u8 a4).wf = true) (w5 : (Lit.int .u8 a5).wf = true) (w6 : (Lit.int .u8 a6).wf = true) (w7 : (Lit.int .u8 a7).wf = true) :
    Calls Try.prog 6 #[.int .u64 a0, .int .u64 a1, .int .u64 a2, .int .u64 a3, .int .u8 a4, .int .u8 a5, .int .u8 a6, .int .u8 a7] w fun e w' => e = .returned (.bool true) ∧ Only [] w w' := by
  obtain ⟨l0, h0⟩ := bounds_u64 w0
  obtain ⟨l1, h1⟩ := bounds_u64 w1
  obtain ⟨l2, h2⟩ := bounds_u64 w2
  obtain ⟨l3, h3⟩ := bounds_u64 w3
  obtain ⟨l4, h4⟩ := bounds_u8 w4
  obtain ⟨l5, h5⟩ := bounds_u8 w5
  obtain ⟨l6, h6⟩ := bounds_u8 w6
  obtain ⟨l7, h7⟩ := bounds_u8 w7
  obtain ⟨a, rfl⟩ : ∃ n : Nat, a0 = n := ⟨a0.toNat, by omega⟩
  obtain ⟨c, rfl⟩ : ∃ n : Nat, a1 = n := ⟨a1.toNat, by omega⟩
  obtain ⟨b, rfl⟩ : ∃ n : Nat, a2 = n := ⟨a2.toNat, by omega⟩
  obtain ⟨d, rfl⟩ : ∃ n : Nat, a3 = n := ⟨a3.toNat, by omega⟩
  obtain ⟨e, rfl⟩ : ∃ n : Nat, a4 = n := ⟨a4.toNat, by omega⟩
  obtain ⟨f, rfl⟩ : ∃ n : Nat, a5 = n := ⟨a5.toNat, by omega⟩
  obtain ⟨g, rfl⟩ : ∃ n : Nat, a6 = n := ⟨a6.toNat, by omega⟩
  obtain ⟨h, rfl⟩ : ∃ n : Nat, a7 = n := ⟨a7.toNat, by omega⟩
  have hc : c < big := by unfold big; omega
  exact law_above a c b d e f g h w (by unfold big; omega) hc (by unfold big; omega) (by unfold big; omega) (by omega) (by omega) (by omega) (by omega) _ rfl _ rfl _ rfl _ rfl _ _ rfl rfl (above_rr a c hc)

end Go.Proofs.Ytbboklmmnnedjaa
