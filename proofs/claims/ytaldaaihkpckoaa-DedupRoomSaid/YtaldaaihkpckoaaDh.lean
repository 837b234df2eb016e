/- DedupRoom: the law, walked. -/
import Derived.Test.YtaldaaihkpckoaaDg
namespace Go.Proofs.Ytaldaaihkpckoaa
open Go.RowKit Go.Mk Go.Dd

set_option maxRecDepth 100000 in
set_option maxHeartbeats 1000000 in
theorem room_walk (a0 : Int) (a : Option Addr) (len cap : Nat) (zs : List Int) (w : World) (w0 : (Lit.int .u8 a0).wf = true) (h : InRow .u16 w a len cap zs) :
    Calls Try.prog 7 #[.int .u8 a0, .slice a len cap] w fun e w' => e = .returned (.bool true) ∧ Only [] w w' := by
  obtain ⟨h00, h01⟩ := bounds_u8 w0
  obtain ⟨hl, hc⟩ := h.cells
  have HC := Lib.hid hc
  obtain ⟨m, hm⟩ : ∃ m : Nat, a0 % 20 = m := ⟨(a0 % 20).toNat, by omega⟩
  have hm20 : (m : Int) < 20 := by omega
  have hm0 : (0 : Int) ≤ m := by omega
  have hlm : (len : Int) ≤ 9223372036854775807 := by simp only [maxLen] at hl; omega
  have htm : a0.tmod 20 = m := by rw [Int.tmod_eq_emod_of_nonneg h00]; exact hm
  have hm1 : m ≤ 1000 := by omega
  clear hc h hl w0 hm h01
  by_cases h60 : 100 < len
  · have g1 : decide (100 < (len : Int)) = true := by simp; omega
    go_enter Try.func7, Try.ntmps7
    go_wp2_with fail
    refine (own_new m hm1 w).mono ?_
    rintro e w1 ⟨sp, rfl, h1⟩
    have H1 := Lib.hid h1
    clear h1
    go_wp2_with fail
    refine (known18 _).mono ?_
    rintro e w2 ⟨rfl, o2⟩
    have H2 := Lib.hid (H1.out.only o2 (by simp) (by simp)).out
    clear o2 H1
    go_wp2_with fail
    go_ret
    exact ⟨rfl, H2.out⟩
  have g1 : decide (100 < (len : Int)) = false := by simp; omega
  go_enter Try.func7, Try.ntmps7
  go_wp2_with fail
  refine (own_new m hm1 w).mono ?_
  rintro e w1 ⟨sp, rfl, h1⟩
  have H1 := Lib.hid h1
  clear h1
  go_wp2_with fail
  refine (known18 _).mono ?_
  rintro e w2 ⟨rfl, o2⟩
  have H2 := Lib.hid (H1.out.only o2 (by simp) (by simp))
  clear o2 H1
  go_wp2_with fail
  go_loopw [7, 8] (fun iv _ wr => ∃ (i : Nat) (lo : Int) (A : List Int), iv = .int .i64 i ∧ i ≤ len ∧ Own w [] wr sp lo A m ∧ lo + A.length ≤ i) (fun iv _ _ => len - (intOf iv).toNat)
  case atStart => exact ⟨0, 0, [], rfl, by omega, H2.out, by simp⟩
  case round =>
    obtain ⟨i, lo, A, rfl, hi, hO, hs⟩ := hrel
    have HO := Lib.hid hO
    have Hs := Lib.hid hs
    clear hO H2 hs
    by_cases hil : i < len
    · obtain ⟨b, off, rfl, hbw, hcell⟩ := HC.out (by omega)
      obtain ⟨x, hx⟩ : ∃ x, zs[i]?.getD 0 = x := ⟨_, rfl⟩
      have hci := HO.out.out.cell (hcell i hil).1 (by simp)
      have hwf := (hcell i hil).2
      rw [List.getD_eq_getElem?_getD, hx] at hci hwf
      obtain ⟨hx0, hx1⟩ := bounds_u16 hwf
      have g2 : decide (i < len) = true := by simpa using hil
      clear hcell hwf hx
      go_wp2_with fail
      refine (own_Take HO.out x (by have := Hs.out; omega) rfl).mono ?_
      rintro e w3 ⟨rfl, lo', A', k1, k2, _⟩
      have K : Hid (lo' + A'.length ≤ ((i + 1 : Nat) : Int)) := by show lo' + A'.length ≤ ((i + 1 : Nat) : Int); have := k1.sum; have := Hs.out; omega
      have K2 := Lib.hid k2
      clear k1 k2
      go_wp2_with fail
      refine (own_Ahead K2.out).mono ?_
      rintro e w5 ⟨p, c, rfl, h4, h5, _⟩
      have hcap := h5.ok.cap
      have g3 : decide (m < A'.length) = false := by simpa using hcap
      have hsrt := h5.ok.abv
      have H5 := Lib.hid h5
      cases A' with
      | nil =>
        have g4 : decide ((m : Int) < 0) = false := by simp
        clear h5 h4 hsrt hcap K2 g3
        go_wp2_with fail
        go_quiet (fail)
        go_wp2_with fail
        go_roundw
        case rel => exact ⟨i + 1, lo', [], by go_num, by omega, H5.out.only ((Only.refl [] _).drewN _) (by simp) (by simp), K.out⟩
        case measure => simp [intOf]; omega
      | cons y A2 =>
        have g4 : decide ((m : Int) < (A2.length : Int) + 1) = false := decide_eq_false (by rw [List.length_cons] at hcap; omega)
        have g5 : decide ((0 : Int) < (A2.length : Int) + 1) = true := decide_eq_true (by omega)
        clear g3
        have hy : decide (y ≤ lo') = false := by have := hsrt y (by simp); simp; omega
        rcases h4.ints with ⟨hh, _⟩ | ⟨gb, off', cap', hsv, hr⟩
        · cases hh
        cases hsv
        have cy := hr.int (i := 0) (x := y) rfl
        rw [Nat.add_zero] at cy
        have Hb : gb < w5.heap.size := hr.lt
        clear h5 h4 hsrt hcap K2 hr
        go_wp2_with fail
        have cl : ∀ n, Calls Try.prog 11 #[.pointer (some ⟨sp, 0, none⟩)] (w5.drewN n) fun e w' => e = .returned (.int .i64 lo') ∧ w' = w5.drewN n := fun n =>
          (own_Low (H5.out.only ((Only.refl [] _).drewN n) (by simp) (by simp))).mono fun _ _ ⟨h1, h2⟩ => ⟨h1, h2.symm⟩
        have CL := Lib.hid cl
        clear cl
        go_quiet (first | (go_at_call 11; exact Calls.quiet_of_same (CL.out _)))
        go_wp2_with fail
        go_roundw
        case rel => exact ⟨i + 1, lo', y :: A2, by go_num, by omega, H5.out.only ((Only.refl [] _).drewN _) (by simp) (by simp), K.out⟩
        case measure => simp [intOf]; omega
    · have g2 : decide (i < len) = false := by simpa using hil
      go_wp2_with fail
      refine (own_Low HO.out).mono ?_
      rintro e w4 ⟨rfl, rfl⟩
      go_wp2_with fail
      have hn1 : ¬ Came lo A lo := fun hc => hc.elim (fun h => by omega) (fun h => by have := HO.out.ok.abv lo h; omega)
      refine (own_Take HO.out lo (by have := Hs.out; omega) (told_fresh hn1 (by omega))).mono ?_
      rintro e w5 ⟨rfl, lo', A', k1, k2, _⟩
      have hst := (under_step (n := lo) k1 HO.out.ok (by omega)).1
      have g3 : decide (lo < lo') = true := by simp; omega
      have K2 := Lib.hid k2
      clear k1 k2 hst hn1 HO
      go_wp2_with fail
      refine (own_Low K2.out).mono ?_
      rintro e w6 ⟨rfl, rfl⟩
      go_wp2_with fail
      go_ret
      exact ⟨rfl, K2.out.out⟩

end Go.Proofs.Ytaldaaihkpckoaa
