/- DedupAll: the law, walked. -/
import Derived.Test.YtaldaaihkpckoaaDf
namespace Go.Proofs.Ytaldaaihkpckoaa
open Go.RowKit Go.Mk Go.Dd

/-- All that came is below n. -/
def Under (n : Int) (lo : Int) (A : List Int) : Prop := lo ≤ n ∧ ∀ a ∈ A, a < n

theorem under_next {n lo k lo' : Int} {A A' : List Int} {most : Nat} (h : NextS lo A most k lo' A') (hk : k < n) (hu : Under n lo A) : Under n lo' A' := by
  by_cases ht : told lo A most k = 1
  · have hc : ∀ j, Came lo' A' j → j < n := fun j hj => by
      rcases (h.fresh ht j).1 hj with (h1 | h1) | h1
      · have := hu.1; omega
      · exact hu.2 j h1
      · omega
    refine ⟨?_, fun a ha => hc a (.inr ha)⟩
    by_cases hl : lo' ≤ n
    · exact hl
    · have := hc n (.inl (by omega)); omega
  · obtain ⟨rfl, rfl⟩ := h.else' ht
    exact hu

theorem under_step {n lo i lo' : Int} {A A' : List Int} {most : Nat} (h : NextS lo A most i lo' A') (hok : Ok lo A most) (hi : i ≤ lo) : i + 1 ≤ lo' ∧ (told lo A most i = 1 ∨ told lo A most i = 2) := by
  by_cases hc : Came lo A i
  · have ht := told_came (most := most) hc
    obtain ⟨rfl, rfl⟩ := h.else' (by rw [ht]; decide)
    refine ⟨?_, .inr ht⟩
    rcases hc with hc | hc
    · omega
    · have := hok.abv i hc; omega
  · have ht : told lo A most i = 1 := told_fresh hc (by omega)
    refine ⟨?_, .inl ht⟩
    have h1 := (h.fresh ht i).2 (.inr rfl)
    have hlo : i = lo := by
      have : ¬ i < lo := fun h => hc (.inl h)
      omega
    rcases h1 with h1 | h1
    · omega
    · have := h.ok.abv i h1
      have := h.ge
      omega

theorem under_end {n lo : Int} {A : List Int} {most : Nat} (hu : Under n lo A) (hok : Ok lo A most) (hn : n ≤ lo) : lo = n ∧ A = [] := by
  refine ⟨by have := hu.1; omega, ?_⟩
  cases A with
  | nil => rfl
  | cons a A => have := hu.2 a (by simp); have := hok.abv a (by simp); omega

set_option maxRecDepth 100000 in
set_option maxHeartbeats 1000000 in
theorem all_walk (a0 a1 : Int) (a : Option Addr) (len cap : Nat) (zs : List Int) (w : World) (w0 : (Lit.int .u8 a0).wf = true) (w1 : (Lit.int .u8 a1).wf = true) (h : InRow .u8 w a len cap zs) :
    Calls Try.prog 6 #[.int .u8 a0, .int .u8 a1, .slice a len cap] w fun e w' => e = .returned (.bool true) ∧ Only [] w w' := by
  obtain ⟨h00, h01⟩ := bounds_u8 w0
  obtain ⟨h10, h11⟩ := bounds_u8 w1
  obtain ⟨hl, hc⟩ := h.cells
  have HC := Lib.hid hc
  obtain ⟨m, hm⟩ : ∃ m : Nat, a0 % 10 = m := ⟨(a0 % 10).toNat, by omega⟩
  obtain ⟨n, hn⟩ : ∃ n : Nat, a1 % 40 = n := ⟨(a1 % 40).toNat, by omega⟩
  have hm10 : (m : Int) < 10 := by omega
  have hm0 : (0 : Int) ≤ m := by omega
  have hn40 : (n : Int) < 40 := by omega
  have hn0 : (0 : Int) ≤ n := by omega
  have hlm : (len : Int) ≤ 9223372036854775807 := by simp only [maxLen] at hl; omega
  have htm : a0.tmod 10 = m := by rw [Int.tmod_eq_emod_of_nonneg h00]; exact hm
  have htn : a1.tmod 40 = n := by rw [Int.tmod_eq_emod_of_nonneg h10]; exact hn
  have hm1 : m ≤ 1000 := by omega
  clear hc h hl w0 w1 hm hn h01 h11
  by_cases h60 : 60 < len
  · have g1 : decide (60 < (len : Int)) = true := by simp; omega
    go_enter Try.func6, Try.ntmps6
    go_wp2_with fail
    refine (own_new m hm1 w).mono ?_
    rintro e w1 ⟨sp, rfl, h1⟩
    have H1 := Lib.hid h1
    clear h1
    go_wp2_with fail
    refine (known18 _).mono ?_
    rintro e w2 ⟨rfl, o2⟩
    have H2 := Lib.hid (H1.out.only o2 (by simp) (by simp)).out
    clear o2 H1
    go_wp2_with fail
    go_ret
    exact ⟨rfl, H2.out⟩
  have g1 : decide (60 < (len : Int)) = false := by simp; omega
  go_enter Try.func6, Try.ntmps6
  go_wp2_with fail
  refine (own_new m hm1 w).mono ?_
  rintro e w1 ⟨sp, rfl, h1⟩
  have H1 := Lib.hid h1
  clear h1
  go_wp2_with fail
  go_loopw [9] (fun iv wr => ∃ (i : Nat) (lo : Int) (A : List Int), iv = .int .i64 i ∧ i ≤ len ∧ Own w [] wr sp lo A m ∧ Under n lo A ∧ lo + A.length ≤ i) (fun iv _ => len - (intOf iv).toNat)
  case atStart => exact ⟨0, 0, [], rfl, by omega, H1.out, ⟨by omega, by simp⟩, by simp⟩
  case round =>
    obtain ⟨i, lo, A, rfl, hi, hO, hU, hs⟩ := hrel
    have HO := Lib.hid hO
    have HU := Lib.hid hU
    have Hs := Lib.hid hs
    clear hO H1 hU hs
    by_cases hil : i < len ∧ 0 < n
    · obtain ⟨hi1, hi2⟩ := hil
      obtain ⟨b, off, rfl, hbw, hcell⟩ := HC.out (by omega)
      obtain ⟨x, hx⟩ : ∃ x, zs[i]?.getD 0 = x := ⟨_, rfl⟩
      have hci := HO.out.out.cell (hcell i hi1).1 (by simp)
      have hwf := (hcell i hi1).2
      rw [List.getD_eq_getElem?_getD, hx] at hci hwf
      obtain ⟨hx0, hx1⟩ := bounds_u8 hwf
      have g2 : decide (i < len) = true := by simp; omega
      have g3 : decide (0 < n) = true := by simp; omega
      obtain ⟨q, hq⟩ : ∃ q : Nat, x % n = q := ⟨(x % n).toNat, by have := Int.emod_nonneg x (show (n : Int) ≠ 0 by omega); omega⟩
      have hqn : (q : Int) < n := by have := Int.emod_lt_of_pos x (show (0 : Int) < n by omega); omega
      have hxq : x.tmod n = q := by rw [Int.tmod_eq_emod_of_nonneg hx0]; exact hq
      have hnz : (n : Int) ≠ 0 := by omega
      clear hcell hwf hx hq
      go_wp2_with fail
      refine (own_Take HO.out q (by have := Hs.out; omega) rfl).mono ?_
      rintro e w3 ⟨rfl, lo', A', k1, k2, _⟩
      have K : Hid (Own w [] w3 sp lo' A' m ∧ Under n lo' A' ∧ lo' + A'.length ≤ ((i + 1 : Nat) : Int)) := ⟨k2, under_next k1 hqn HU.out, by have := k1.sum; have := Hs.out; omega⟩
      clear k1 k2
      go_wp2_with fail
      go_roundw
      case rel => exact ⟨i + 1, lo', A', by go_num, by omega, K.out.1, K.out.2.1, K.out.2.2⟩
      case measure => simp [intOf]; omega
    · have g : decide (i < len) = false ∨ decide (i < len) = true ∧ decide (0 < n) = false := by
        by_cases h1 : i < len
        · exact .inr ⟨by simpa using h1, by simp; omega⟩
        · exact .inl (by simpa using h1)
      clear hil
      rcases g with g2 | ⟨g2, g3⟩
      all_goals
        go_wp2_with fail
        go_loopw [10, 11] (fun jv _ wr => ∃ (j : Nat) (lo : Int) (A : List Int), jv = .int .i64 j ∧ j ≤ n ∧ (j : Int) ≤ lo ∧ Own w [] wr sp lo A m ∧ Under n lo A ∧ lo + A.length ≤ 60 + j) (fun jv _ _ => n - (intOf jv).toNat)
        case atStart => exact ⟨0, lo, A, rfl, by omega, HO.out.ok.lo0, HO.out, HU.out, by have := Hs.out; omega⟩
        case round =>
          clear g2
          obtain ⟨j, lo2, A2, rfl, hj, hjl, hO2, hU2, hs2⟩ := hrel
          have HO2 := Lib.hid hO2
          have HU2 := Lib.hid hU2
          have Hs2 := Lib.hid hs2
          have Hjl := Lib.hid hjl
          clear hO2 hU2 hs2 hjl HO HU Hs
          by_cases hjn : j < n
          · have g4 : decide (j < n) = true := by simpa using hjn
            go_wp2_with fail
            obtain ⟨t, ht⟩ : ∃ t, told lo2 A2 m j = t := ⟨_, rfl⟩
            refine (own_Take HO2.out j (by have := Hs2.out; omega) ht).mono ?_
            rintro e w3 ⟨rfl, lo', A', k1, k2, _⟩
            have hst := under_step (n := n) k1 HO2.out.ok Hjl.out
            rw [ht] at hst
            have K : Hid (Own w [] w3 sp lo' A' m ∧ Under n lo' A' ∧ lo' + A'.length ≤ 60 + ((j + 1 : Nat) : Int) ∧ ((j + 1 : Nat) : Int) ≤ lo') := ⟨k2, under_next k1 (by omega) HU2.out, by have := k1.sum; have := Hs2.out; omega, by omega⟩
            have ht12 := hst.2
            clear k1 k2 hst ht
            rcases ht12 with rfl | rfl
            all_goals
              go_wp2_with fail
              go_roundw
              case rel => exact ⟨j + 1, lo', A', by go_num, by omega, K.out.2.2.2, K.out.1, K.out.2.1, K.out.2.2.1⟩
              case measure => simp [intOf]; omega
          · have g4 : decide (j < n) = false := by simpa using hjn
            obtain ⟨rfl, rfl⟩ := under_end HU2.out HO2.out.ok (by have := Hjl.out; omega)
            go_wp2_with fail
            refine (known18 _).mono ?_
            rintro e w3 ⟨rfl, o3⟩
            have H3 := Lib.hid (HO2.out.only o3 (by simp) (by simp))
            clear o3 HO2
            go_wp2_with fail
            refine (own_Low H3.out).mono ?_
            rintro e w4 ⟨rfl, rfl⟩
            go_wp2_with fail
            refine (own_Ahead H3.out).mono ?_
            rintro e w5 ⟨p, c, rfl, _, h5, _⟩
            have H5 := Lib.hid h5.out
            clear h5 H3
            go_wp2_with fail
            go_ret
            exact ⟨rfl, H5.out⟩

end Go.Proofs.Ytaldaaihkpckoaa
