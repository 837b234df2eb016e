/- The law PrioHeavy, walked. -/
import Derived.Test.YtbboklmmnnedjaaPx
set_option linter.unusedVariables false
set_option linter.unusedSimpArgs false
namespace Go.Proofs.Ytbboklmmnnedjaa
open Go.RowKit Go.Mk Go.Pr

theorem two_close (w0 d0 w1 d1 : Nat) : ∃ K, closeS 1 0 (addS 1 (addS 1 [] ⟨w0, drawn 0 d0, 0⟩) ⟨w1, drawn 0 d1, 1⟩) = [K] ∧ K.p = if w0 * (d1 + 1) < w1 * (d0 + 1) then 1 else 0 := by
  have hd : ∀ d, drawn 0 d = d := fun d => rfl
  rw [hd, hd]
  have h1 : addS 1 [] ⟨w0, d0, 0⟩ = [⟨w0, d0, 0⟩] := rfl
  rw [h1]
  by_cases h : w0 * (d1 + 1) < w1 * (d0 + 1)
  · have hl : ltT ⟨w0, d0, 0⟩ ⟨w1, d1, 1⟩ = true := beats_iff.2 (.inl h)
    have h2 : addS 1 [⟨w0, d0, 0⟩] ⟨w1, d1, 1⟩ = [⟨w0, d0, 0⟩, ⟨w1, d1, 1⟩] := by
      simp [addS, insT, hl]
    rw [h2, if_pos h]
    exact ⟨_, rfl, rfl⟩
  · have hl : ltT ⟨w0, d0, 0⟩ ⟨w1, d1, 1⟩ = false := by
      rw [Bool.eq_false_iff]
      intro hc
      rcases beats_iff.1 hc with h3 | h3
      · exact h h3
      · exact absurd h3.2 (by simp)
    have h2 : addS 1 [⟨w0, d0, 0⟩] ⟨w1, d1, 1⟩ = [⟨w1, d1, 1⟩, ⟨w0, d0, 0⟩] := by
      simp [addS, insT, hl]
    rw [h2, if_neg h]
    exact ⟨_, rfl, rfl⟩

/-- What Close tells, if it is one. -/
theorem one_row {w : World} {K : Kt} {rv : Value} (h : SliceIs w 33 3 ([K].map encK) rv) : ∃ g off cap, rv = .slice (some ⟨g, off, none⟩) 1 cap ∧ w.cell? ⟨g, off, none⟩ = some (.int .i64 K.p) ∧ g < w.heap.size := by
  generalize hxs : List.map encK [K] = xs at h
  cases h with
  | nil => exact absurd hxs (by simp)
  | @row _ g off cap h =>
    subst hxs
    refine ⟨g, off, cap, rfl, ?_, h.lt⟩
    have := h.cell (i := 0) (f := 0) rfl rfl
    simpa using this

set_option maxRecDepth 100000 in
set_option maxHeartbeats 2000000 in
theorem heavy_walk (a b d : Nat) (how : Bool) (ha : a < 256) (hb : b < 256) (hd : d < 256) (w : World) :
    Calls Try.prog 3 #[.int .u8 a, .int .u8 b, .int .u8 d, .bool how] w fun e w' => e = .returned (.bool true) ∧ Only [] w w' := by
  have hN : Hid (Calls Try.prog 10 #[.int .i64 1, .int .u64 0] w fun e w' => e = .returned (.pointer (some ⟨w.heap.size, 0, none⟩)) ∧ Smp w w' w.heap.size 1 0 0 []) := Lib.hid (smp_new (w := w) 1 0 (by omega) (by omega) (by omega))
  have hK := Lib.hid known_walk
  have ca : IntKind.u64.wrap ((a : Int) + 1) = ((a + 1 : Nat) : Int) := by rw [wrap_u64]; omega
  have cb : IntKind.u64.wrap ((b : Int) + 1) = ((b + 1 : Nat) : Int) := by rw [wrap_u64]; omega
  have cd : IntKind.u64.wrap ((d : Int) + 1) = ((d + 1 : Nat) : Int) := by rw [wrap_u64]; omega
  cases how
  · obtain ⟨K, hK1, hK2⟩ := two_close (d + 1) b (d + 1) a
    have hcmp : ((d + 1) * (a + 1) < (d + 1) * (b + 1)) ↔ a < b := by
      rw [Nat.mul_lt_mul_left (by omega)]; omega
    simp only [hcmp] at hK2
    have HK := Lib.hid (And.intro hK1 hK2)
    clear hK1 hK2 hcmp
    by_cases hlt : a < b
    · have t1 : decide (a < b) = true := decide_eq_true hlt
      have t2 : decide ((a : Int) < (b : Int)) = true := decide_eq_true (by omega)
      go_enter Try.func3, Try.ntmps3
      go_wp2_with fail
      refine hN.out.mono ?_
      rintro e w1 ⟨rfl, s1⟩
      go_wp2_with fail
      refine (smp_add s1 (d + 1) b (by omega) (by omega) (by omega) (by omega)).mono ?_
      rintro e w3 ⟨rfl, s2⟩
      clear s1
      go_wp2_with fail
      refine (smp_add s2 (d + 1) a (by omega) (by omega) (by omega) (by omega)).mono ?_
      rintro e w4 ⟨rfl, s3⟩
      clear s2
      go_wp2_with fail
      refine (smp_close s3).mono ?_
      rintro e w5 ⟨M, rv, rfl, hM, hp, hpw, s5, o5, hrv⟩
      rw [HK.out.1, List.perm_singleton] at hp
      subst hp
      obtain ⟨g, off, cap, rfl, k0, hg⟩ := one_row hM
      rw [HK.out.2, if_pos hlt] at k0
      have HE := Lib.hid o5
      clear hM hpw s5 o5 hrv s3
      go_wp2_with fail
      refine (hK.out _).mono ?_
      rintro e w6 ⟨rfl, o6⟩
      have k1 := o6.cell k0 (by simp)
      have hg6 := o6.lt hg
      have HO := Lib.hid ((HE.out.mono (S' := []) (by intro k hk hl; simp only [List.mem_singleton] at hk; omega)).trans o6)
      clear o6
      go_wp2_with fail
      go_ret
      exact ⟨rfl, HO.out⟩
    · have t1 : decide (a < b) = false := decide_eq_false hlt
      have t2 : decide ((a : Int) < (b : Int)) = false := decide_eq_false (by omega)
      go_enter Try.func3, Try.ntmps3
      go_wp2_with fail
      refine hN.out.mono ?_
      rintro e w1 ⟨rfl, s1⟩
      go_wp2_with fail
      refine (smp_add s1 (d + 1) b (by omega) (by omega) (by omega) (by omega)).mono ?_
      rintro e w3 ⟨rfl, s2⟩
      clear s1
      go_wp2_with fail
      refine (smp_add s2 (d + 1) a (by omega) (by omega) (by omega) (by omega)).mono ?_
      rintro e w4 ⟨rfl, s3⟩
      clear s2
      go_wp2_with fail
      refine (smp_close s3).mono ?_
      rintro e w5 ⟨M, rv, rfl, hM, hp, hpw, s5, o5, hrv⟩
      rw [HK.out.1, List.perm_singleton] at hp
      subst hp
      obtain ⟨g, off, cap, rfl, k0, hg⟩ := one_row hM
      rw [HK.out.2, if_neg hlt] at k0
      have HE := Lib.hid o5
      clear hM hpw s5 o5 hrv s3
      go_wp2_with fail
      refine (hK.out _).mono ?_
      rintro e w6 ⟨rfl, o6⟩
      have k1 := o6.cell k0 (by simp)
      have hg6 := o6.lt hg
      have HO := Lib.hid ((HE.out.mono (S' := []) (by intro k hk hl; simp only [List.mem_singleton] at hk; omega)).trans o6)
      clear o6
      go_wp2_with fail
      go_ret
      exact ⟨rfl, HO.out⟩
  · obtain ⟨K, hK1, hK2⟩ := two_close (a + 1) d (b + 1) d
    have hcmp : ((a + 1) * (d + 1) < (b + 1) * (d + 1)) ↔ a < b := by
      rw [Nat.mul_lt_mul_right (by omega)]; omega
    simp only [hcmp] at hK2
    have HK := Lib.hid (And.intro hK1 hK2)
    clear hK1 hK2 hcmp
    by_cases hlt : a < b
    · have t1 : decide (a < b) = true := decide_eq_true hlt
      have t2 : decide ((a : Int) < (b : Int)) = true := decide_eq_true (by omega)
      go_enter Try.func3, Try.ntmps3
      go_wp2_with fail
      refine hN.out.mono ?_
      rintro e w1 ⟨rfl, s1⟩
      go_wp2_with fail
      refine (smp_add s1 (a + 1) d (by omega) (by omega) (by omega) (by omega)).mono ?_
      rintro e w3 ⟨rfl, s2⟩
      clear s1
      go_wp2_with fail
      refine (smp_add s2 (b + 1) d (by omega) (by omega) (by omega) (by omega)).mono ?_
      rintro e w4 ⟨rfl, s3⟩
      clear s2
      go_wp2_with fail
      refine (smp_close s3).mono ?_
      rintro e w5 ⟨M, rv, rfl, hM, hp, hpw, s5, o5, hrv⟩
      rw [HK.out.1, List.perm_singleton] at hp
      subst hp
      obtain ⟨g, off, cap, rfl, k0, hg⟩ := one_row hM
      rw [HK.out.2, if_pos hlt] at k0
      have HE := Lib.hid o5
      clear hM hpw s5 o5 hrv s3
      go_wp2_with fail
      refine (hK.out _).mono ?_
      rintro e w6 ⟨rfl, o6⟩
      have k1 := o6.cell k0 (by simp)
      have hg6 := o6.lt hg
      have HO := Lib.hid ((HE.out.mono (S' := []) (by intro k hk hl; simp only [List.mem_singleton] at hk; omega)).trans o6)
      clear o6
      go_wp2_with fail
      go_ret
      exact ⟨rfl, HO.out⟩
    · have t1 : decide (a < b) = false := decide_eq_false hlt
      have t2 : decide ((a : Int) < (b : Int)) = false := decide_eq_false (by omega)
      go_enter Try.func3, Try.ntmps3
      go_wp2_with fail
      refine hN.out.mono ?_
      rintro e w1 ⟨rfl, s1⟩
      go_wp2_with fail
      refine (smp_add s1 (a + 1) d (by omega) (by omega) (by omega) (by omega)).mono ?_
      rintro e w3 ⟨rfl, s2⟩
      clear s1
      go_wp2_with fail
      refine (smp_add s2 (b + 1) d (by omega) (by omega) (by omega) (by omega)).mono ?_
      rintro e w4 ⟨rfl, s3⟩
      clear s2
      go_wp2_with fail
      refine (smp_close s3).mono ?_
      rintro e w5 ⟨M, rv, rfl, hM, hp, hpw, s5, o5, hrv⟩
      rw [HK.out.1, List.perm_singleton] at hp
      subst hp
      obtain ⟨g, off, cap, rfl, k0, hg⟩ := one_row hM
      rw [HK.out.2, if_neg hlt] at k0
      have HE := Lib.hid o5
      clear hM hpw s5 o5 hrv s3
      go_wp2_with fail
      refine (hK.out _).mono ?_
      rintro e w6 ⟨rfl, o6⟩
      have k1 := o6.cell k0 (by simp)
      have hg6 := o6.lt hg
      have HO := Lib.hid ((HE.out.mono (S' := []) (by intro k hk hl; simp only [List.mem_singleton] at hk; omega)).trans o6)
      clear o6
      go_wp2_with fail
      go_ret
      exact ⟨rfl, HO.out⟩

theorem heavy_top (a0 a1 a2 : Int) (how : Bool) (w : World) (w0 : (Lit.int .u8 a0).wf = true) (w1 : (Lit.int .u8 a1).wf = true) (w2 : (Lit.int .u8 a2).wf = true) :
    Calls Try.prog 3 #[.int .u8 a0, .int .u8 a1, .int .u8 a2, .bool how] w fun e w' => e = .returned (.bool true) ∧ Only [] w w' := by
  obtain ⟨h00, h01⟩ := bounds_u8 w0
  obtain ⟨h10, h11⟩ := bounds_u8 w1
  obtain ⟨h20, h21⟩ := bounds_u8 w2
  obtain ⟨a, rfl⟩ : ∃ a : Nat, a0 = a := ⟨a0.toNat, by omega⟩
  obtain ⟨b, rfl⟩ : ∃ a : Nat, a1 = a := ⟨a1.toNat, by omega⟩
  obtain ⟨c, rfl⟩ : ∃ a : Nat, a2 = a := ⟨a2.toNat, by omega⟩
  exact heavy_walk a b c how (by omega) (by omega) (by omega) w

end Go.Proofs.Ytbboklmmnnedjaa
