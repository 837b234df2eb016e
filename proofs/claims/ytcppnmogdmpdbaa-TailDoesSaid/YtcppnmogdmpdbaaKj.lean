/- TailWaits: the law, walked. -/
import Derived.Test.YtcppnmogdmpdbaaKi
set_option linter.unusedVariables false
set_option linter.unusedSimpArgs false
namespace Go.Proofs.Ytcppnmogdmpdbaa
open Go.RowKit Go.Mk Go.Hp
attribute [-go_sem] Builtin.append_

set_option maxRecDepth 100000 in
set_option maxHeartbeats 2000000 in
theorem waits_walk (a0 : Int) (a : Option Addr) (len cap : Nat) (zs : List Int) (w : World) (w0 : (Lit.int .u8 a0).wf = true) (h : InRow .u8 w a len cap zs) :
    Calls Try.prog 11 #[.int .u8 a0, .slice a len cap] w fun e w' => e = .returned (.bool true) ∧ Only [] w w' := by
  obtain ⟨h00, h01⟩ := bounds_u8 w0
  obtain ⟨hl, hc⟩ := h.cells
  have HC := Lib.hid hc
  obtain ⟨m, hm⟩ : ∃ m : Nat, a0 % 30 = m := ⟨(a0 % 30).toNat, by omega⟩
  have hm20 : (m : Int) < 30 := by omega
  have hm0 : (0 : Int) ≤ m := by omega
  have hlm : (len : Int) ≤ 9223372036854775807 := by simp only [maxLen] at hl; omega
  have htm : a0.tmod 30 = m := by rw [Int.tmod_eq_emod_of_nonneg h00]; exact hm
  clear hc h hl w0 hm h01
  by_cases h60 : 60 < len
  · have g1 : decide (60 < (len : Int)) = true := decide_eq_true (by omega)
    go_enter Try.func11, Try.ntmps11
    go_wp2_with fail
    refine (town_new 100 (1 + (m : Int)) 1 (by omega) (by omega) (by omega) (by omega) (by omega) (by omega)).mono ?_
    rintro e w1 ⟨tp, rfl, h1⟩
    have H1 := Lib.hid h1
    clear h1
    go_wp2_with fail
    refine (known13 _).mono ?_
    rintro e w2 ⟨rfl, o2⟩
    have H2 := Lib.hid (H1.out.only o2 (by simp) (by simp)).out
    clear o2 H1
    go_wp2_with fail
    go_ret
    exact ⟨rfl, H2.out⟩
  have g1 : decide (60 < (len : Int)) = false := decide_eq_false (by omega)
  go_enter Try.func11, Try.ntmps11
  go_wp2_with fail
  refine (town_new 100 (1 + (m : Int)) 1 (by omega) (by omega) (by omega) (by omega) (by omega) (by omega)).mono ?_
  rintro e w1 ⟨tp, rfl, h1⟩
  have H1 := Lib.hid h1
  clear h1
  go_wp2_with fail
  refine (town_take H1.out 5 (sp0 0 1) (by omega) (by omega) rfl (by simp [spansA]) (by omega)).mono ?_
  rintro e w2 ⟨rfl, h2, _⟩
  have H2 : Hid (TObj w [] w2 tp 100 (1 + (m : Int)) 1 5 1 (fun _ => none) [⟨0, 5 + (1 + (m : Int)), (0, 1), [sp0 0 1]⟩]) := h2
  clear h2 H1
  go_wp2_with fail
  go_loopw [7, 8] (fun nv iv wr => ∃ (i : Nat) (nw : Int) (sps : List Sp), iv = .int .i64 i ∧ i ≤ len ∧ nv = .int .i64 nw ∧ 5 ≤ nw ∧ nw < 5 + (1 + (m : Int)) ∧ sps.length = i + 1 ∧ TObj w [] wr tp 100 (1 + (m : Int)) 1 nw 1 (fun _ => none) [⟨0, 5 + (1 + (m : Int)), (0, 1), sps⟩]) (fun _ iv _ => len - (intOf iv).toNat)
  case atStart => exact ⟨0, 5, [sp0 0 1], rfl, by omega, rfl, by omega, by omega, rfl, H2.out⟩
  case round =>
    obtain ⟨i, nw, sps, rfl, hi, rfl, hn5, hnm, hsl, hO⟩ := hrel
    clear H2
    have Hsl := Lib.hid hsl
    by_cases hgo : i < len ∧ nw + (zs[i]?.getD 0) % 3 < 5 + (1 + (m : Int))
    · obtain ⟨hil, hlt⟩ := hgo
      obtain ⟨b, off, rfl, hbw, hcell⟩ := HC.out (by omega)
      obtain ⟨x, hx⟩ : ∃ x, zs[i]?.getD 0 = x := ⟨_, rfl⟩
      have hci := hO.out.cell (hcell i hil).1 (by simp)
      have hwf := (hcell i hil).2
      rw [List.getD_eq_getElem?_getD, hx] at hci hwf
      rw [hx] at hlt
      obtain ⟨hx0, hx1⟩ := bounds_u8 hwf
      obtain ⟨r, hr⟩ : ∃ r : Nat, x % 3 = r := ⟨(x % 3).toNat, by omega⟩
      rw [hr] at hlt
      have hxr : x.tmod 3 = r := by rw [Int.tmod_eq_emod_of_nonneg hx0]; exact hr
      have hr3 : (r : Int) < 3 := by omega
      have hr0 : (0 : Int) ≤ r := by omega
      have g2 : decide (i < len) = true := decide_eq_true hil
      have g3 : decide (nw + (r : Int) < 5 + (1 + (m : Int))) = true := decide_eq_true hlt
      have HO := Lib.hid hO
      clear hO hsl hcell hwf hx hr
      go_wp2_with fail
      refine (town_take HO.out (nw + (r : Int)) (sp0 0 1) (by omega) (by omega) rfl (by simp [spansA]; have := Hsl.out; omega) (by omega)).mono ?_
      rintro e w3 ⟨rfl, h3, _⟩
      have h3' : TObj w [] w3 tp 100 (1 + (m : Int)) 1 (nw + (r : Int)) 1 (fun _ => none) [⟨0, 5 + (1 + (m : Int)), (0, 1), sps ++ [sp0 0 1]⟩] := h3
      have H3 := Lib.hid h3'
      clear h3 h3' HO
      go_wp2_with fail
      go_roundw
      case rel => exact ⟨i + 1, nw + (r : Int), sps ++ [sp0 0 1], by go_num, by omega, rfl, by omega, hlt, by rw [List.length_append, List.length_singleton, Hsl.out], H3.out⟩
      case measure => simp [intOf]; omega
    · have HO := Lib.hid hO
      have Hgo := Lib.hid hgo
      have tail : ∀ w3, Only [] wr w3 → TObj w [] w3 tp 100 (1 + (m : Int)) 1 nw 1 (fun _ => none) [⟨0, 5 + (1 + (m : Int)), (0, 1), sps⟩] := fun w3 h3 => hO.only h3 (by simp) (by simp)
      have Htail := Lib.hid tail
      have hcase : (decide (i < len) = false) ∨ (decide (i < len) = true ∧ i < len ∧ ∃ (b off : Nat) (x : Int) (r : Nat), a = some ⟨b, off, none⟩ ∧ b < w.heap.size ∧ wr.cell? ⟨b, off + i, none⟩ = some (.int .u8 x) ∧ 0 ≤ x ∧ x ≤ 255 ∧ x.tmod 3 = r ∧ (r : Int) < 3 ∧ decide (nw + (r : Int) < 5 + (1 + (m : Int))) = false) := by
        by_cases hil : i < len
        · obtain ⟨b, off, h3, hbw, hcell⟩ := HC.out (by omega)
          obtain ⟨x, hx⟩ : ∃ x, zs[i]?.getD 0 = x := ⟨_, rfl⟩
          have hci := hO.out.cell (hcell i hil).1 (by simp)
          have hwf := (hcell i hil).2
          rw [List.getD_eq_getElem?_getD, hx] at hci hwf
          obtain ⟨hx0, hx1⟩ := bounds_u8 hwf
          obtain ⟨r, hr⟩ : ∃ r : Nat, x % 3 = r := ⟨(x % 3).toNat, by omega⟩
          refine .inr ⟨decide_eq_true hil, hil, b, off, x, r, h3, hbw, hci, hx0, hx1, by rw [Int.tmod_eq_emod_of_nonneg hx0]; exact hr, by omega, decide_eq_false (fun h4 => hgo ⟨hil, by rw [hx, hr]; exact h4⟩)⟩
        · exact .inl (decide_eq_false hil)
      have hbw2 := hO.out.size
      clear hO hsl hgo tail
      rcases hcase with g2 | ⟨g2, hil, b, off, x, r, rfl, hbw, hci, hx0, hx1, hxr, hr3, g3⟩
      all_goals
        go_wp2_with fail
        refine (town_Next HO.out).mono ?_
        rintro e w3 ⟨rfl, o3⟩
        have H3 := Lib.hid (Htail.out _ o3)
        simp only [nextA]
        clear o3 HO
        go_wp2_with fail
        refine (town_Due H3.out (4 + (1 + (m : Int))) (by omega) (by omega)).mono ?_
        rintro e w4 ⟨p4, c4, G4, rfl, _, h4, _⟩
        have hrn := rest_none (n := 4 + (1 + (m : Int))) (A := [⟨0, 5 + (1 + (m : Int)), (0, 1), sps⟩]) (by simp)
        rw [hrn.1] at h4
        rw [hrn.2]
        have H4 := Lib.hid h4
        simp only [List.length_nil]
        clear h4 hrn H3
        go_wp2_with fail
        refine (town_Due H4.out (5 + (1 + (m : Int))) (by omega) (by omega)).mono ?_
        rintro e w5 ⟨p5, c5, G5, rfl, _, h5, _⟩
        have hra := rest_all (n := 5 + (1 + (m : Int))) (A := [⟨0, 5 + (1 + (m : Int)), (0, 1), sps⟩]) (by simp)
        rw [hra.2]
        have H5 := Lib.hid h5
        simp only [List.length_cons, List.length_nil]
        clear h5 hra H4
        go_wp2_with fail
        refine (known13 _).mono ?_
        rintro e w6 ⟨rfl, o6⟩
        have H6 := Lib.hid (H5.out.only o6 (by simp) (by simp)).out
        clear o6 H5
        go_wp2_with fail
        go_ret
        exact ⟨rfl, H6.out⟩

end Go.Proofs.Ytcppnmogdmpdbaa
