/- PrioMean: lcm walked; what Close tells of one vector of draws. -/
import Derived.Test.YtbboklmmnnedjaaVc
set_option linter.unusedVariables false
set_option linter.unusedSimpArgs false
namespace Go.Proofs.Ytbboklmmnnedjaa
open Go.RowKit Go.Mk Go.Pr

def lcmT : Nat → Nat
  | 0 => 1
  | 1 => 1
  | 2 => 2
  | 3 => 6
  | 4 => 12
  | _ => 60
theorem lcmT_dvd {m : Nat} (hm : m ≤ 5) : ∀ j, 0 < j → j ≤ m → j ∣ lcmT m := by
  have h : ∀ m : Fin 6, ∀ j : Fin 6, 0 < j.val → j.val ≤ m.val → j.val ∣ lcmT m.val := by decide
  exact fun j h0 hj => h ⟨m, by omega⟩ ⟨j, by omega⟩ h0 hj
theorem lcmT_small {m : Nat} (hm : m ≤ 5) : 0 < lcmT m ∧ lcmT m ≤ 60 := by
  have h : ∀ m : Fin 6, 0 < lcmT m.val ∧ lcmT m.val ≤ 60 := by decide
  exact h ⟨m, by omega⟩
theorem lcmT_next {i : Nat} (h2 : 2 ≤ i) (h5 : i ≤ 5) : lcmT (i - 1) / Nat.gcd (lcmT (i - 1)) i * i = lcmT i := by
  have h : ∀ i : Fin 6, 2 ≤ i.val → lcmT (i.val - 1) / Nat.gcd (lcmT (i.val - 1)) i.val * i.val = lcmT i.val := by decide
  exact h ⟨i, by omega⟩ h2

set_option maxRecDepth 100000 in
set_option maxHeartbeats 2000000 in
theorem lcm_walk (n : Nat) (w : World) (h1 : 1 ≤ n) (h5 : n ≤ 5) :
    Calls Try.prog 18 #[.int .u64 n] w fun e w' => e = .returned (.int .u64 ((lcmT n : Nat) : Int)) ∧ w' = w := by
  go_enter Try.func18, Try.ntmps18
  go_wp2_with fail
  go_loop [3, 4] (fun xv iv => ∃ i : Nat, iv = .int .u64 i ∧ 2 ≤ i ∧ i ≤ n + 1 ∧ xv = .int .u64 (lcmT (i - 1) : Nat)) (fun _ iv => n + 1 - (intOf iv).toNat)
  case atStart => exact ⟨2, rfl, Nat.le_refl _, by omega, rfl⟩
  case round =>
    obtain ⟨i, rfl, hi2, hin, rfl⟩ := hrel
    by_cases hil : i ≤ n
    · have t1 : decide ((i : Int) ≤ (n : Int)) = true := decide_eq_true (by omega)
      have t1' : decide (i ≤ n) = true := decide_eq_true hil
      have hX := lcmT_small (m := i - 1) (by omega)
      have hnx := lcmT_next hi2 (by omega)
      obtain ⟨X, hXe⟩ : ∃ X, X = lcmT (i - 1) := ⟨_, rfl⟩
      rw [← hXe] at hX hnx ⊢
      obtain ⟨G, hGe⟩ : ∃ G, G = Nat.gcd X i := ⟨_, rfl⟩
      have hG0 : 0 < G := by rw [hGe]; exact Nat.gcd_pos_of_pos_left _ hX.1
      rw [← hGe] at hnx
      have HX := Lib.hid (And.intro hnx (And.intro hXe hGe))
      have hXb : X ≤ 60 := hX.2
      clear hnx hXe hGe hX
      go_wp2_with fail
      go_loop [5, 6] (fun av bv => ∃ a b : Nat, av = .int .u64 a ∧ bv = .int .u64 b ∧ a ≤ 100 ∧ b ≤ 100 ∧ Nat.gcd a b = G) (fun _ bv => (intOf bv).toNat)
      case atStart => exact ⟨X, i, rfl, rfl, by omega, by omega, HX.out.2.2.symm⟩
      case round =>
        obtain ⟨x, y, rfl, rfl, hx, hy, hg⟩ := hrel
        by_cases h0 : y = 0
        · have t2 : decide ((0 : Int) < (y : Int)) = false := decide_eq_false (by omega)
          have t2' : decide (0 < y) = false := decide_eq_false (by omega)
          have hy0 : ¬ 0 < y := by omega
          have hxG : x = G := by rw [h0, Nat.gcd_zero_right] at hg; exact hg
          subst hxG
          have kx : ((x : Int) == 0) = false := by rw [beq_eq_false_iff_ne]; omega
          have kx0 : ¬ x = 0 := by omega
          have hq : X / x ≤ X := Nat.div_le_self _ _
          have hm1 : X / x * i ≤ 60 * 5 := Nat.mul_le_mul (by omega) (by omega)
          have e1 : IntKind.u64.wrap ((X : Int) / (x : Int)) = ((X / x : Nat) : Int) := by
            rw [show (X : Int) / (x : Int) = ((X / x : Nat) : Int) by simp, wraps_u64 _ (Int.natCast_nonneg _) (by omega)]
          have HL := HX.out.1
          obtain ⟨Q, hQ⟩ : ∃ Q, Q = X / x := ⟨_, rfl⟩
          rw [← hQ] at hm1 HL e1
          have e2 : (X : Int) / (x : Int) = (Q : Int) := by rw [hQ]; simp
          have HF : Hid (IntKind.u64.wrap (IntKind.u64.wrap (Q : Int) * (i : Int)) = ((lcmT i : Nat) : Int)) := Lib.hid (by
            rw [wraps_u64 (Q : Int) (Int.natCast_nonneg _) (by omega), ← Int.natCast_mul, HL, wraps_u64 _ (Int.natCast_nonneg _) (by have := lcmT_small (m := i) (by omega); omega)])
          clear hQ HL hg hq hm1 h0 e1
          go_wp2_with fail
          refine ⟨⟨i + 1, rfl, by omega, by omega, ?_⟩, ?_⟩
          · rw [HF.out, Nat.add_sub_cancel]
          · simp [intOf]; omega
        · have t2 : decide ((0 : Int) < (y : Int)) = true := decide_eq_true (by omega)
          have t2' : decide (0 < y) = true := decide_eq_true (by omega)
          have hpos : 0 < y := by omega
          have hmm : x % y < y := Nat.mod_lt _ hpos
          have hgx : Nat.gcd y (x % y) = G := by rw [← hg, Nat.gcd_comm x y, Nat.gcd_rec y x]; exact Nat.gcd_comm _ _
          have Hg := Lib.hid hgx
          clear hgx hg h0
          go_wp2_with fail
          go_round
          case rel => exact ⟨y, x % y, rfl, by go_num, by omega, by omega, Hg.out⟩
          case measure => simp [intOf]; omega
    · have t1 : decide ((i : Int) ≤ (n : Int)) = false := decide_eq_false (by omega)
      have t1' : decide (i ≤ n) = false := decide_eq_false hil
      have hie : i - 1 = n := by omega
      rw [hie]
      clear hil
      go_wp2_with fail
      go_ret
      exact ⟨rfl, rfl⟩

end Go.Proofs.Ytbboklmmnnedjaa
