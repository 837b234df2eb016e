/- DedupRow: the law, walked. -/
import Derived.Test.YtaldaaihkpckoaaDe
namespace Go.Proofs.Ytaldaaihkpckoaa
open Go.RowKit Go.Mk Go.Dd

theorem come_next (i : Int) (j : Int) : Came (i + 1) [] j ↔ Came i [] j ∨ j = i := by
  unfold Came
  simp only [List.not_mem_nil, or_false]
  omega

set_option maxRecDepth 100000 in
set_option maxHeartbeats 1000000 in
theorem row_walk (a0 a1 : Int) (w : World) (w0 : (Lit.int .u8 a0).wf = true) (w1 : (Lit.int .u8 a1).wf = true) :
    Calls Try.prog 3 #[.int .u8 a0, .int .u8 a1] w fun e w' => e = .returned (.bool true) ∧ Only [] w w' := by
  obtain ⟨h00, h01⟩ := bounds_u8 w0
  obtain ⟨h10, h11⟩ := bounds_u8 w1
  obtain ⟨m, rfl⟩ : ∃ m : Nat, a0 = m := ⟨a0.toNat, by omega⟩
  obtain ⟨n, rfl⟩ : ∃ n : Nat, a1 = n := ⟨a1.toNat, by omega⟩
  clear w0 w1
  go_enter Try.func3, Try.ntmps3
  go_wp2_with fail
  refine (own_new m (by omega) w).mono ?_
  rintro e w1 ⟨sp, rfl, h1⟩
  have H1 := Lib.hid h1
  clear h1
  go_wp2_with fail
  go_loopw [6] (fun iv wr => ∃ i : Nat, iv = .int .i64 i ∧ i ≤ n ∧ Own w [] wr sp i [] m) (fun iv _ => n - (intOf iv).toNat)
  case atStart => exact ⟨0, rfl, by omega, H1.out⟩
  case round =>
    obtain ⟨i, rfl, hi, hO⟩ := hrel
    have HO := Lib.hid hO
    clear hO H1
    by_cases hin : i < n
    · have g1 : decide (i < n) = true := by simpa using hin
      go_wp2_with fail
      refine (own_TakeN (lo2 := i + 1) (A2 := []) HO.out i (by simp; omega) (told_fresh (by unfold Came; simp) (by omega)) ⟨by omega, by simp, by simp, by simp⟩ (fun j => come_next i j)).mono ?_
      rintro e w3 ⟨rfl, h3⟩
      have H3 := Lib.hid h3
      clear h3 HO
      go_wp2_with fail
      refine (own_TakeS (t := 2) H3.out i (by simp; omega) (told_came (.inl (by omega))) (by omega)).mono ?_
      rintro e w4 ⟨rfl, h4, _⟩
      have H4 := Lib.hid h4
      clear h4 H3
      go_wp2_with fail
      refine (own_Ahead H4.out).mono ?_
      rintro e w5 ⟨p, c, rfl, _, h5, _⟩
      have H5 := Lib.hid h5
      clear h5 H4
      go_wp2_with fail
      refine (own_Low H5.out).mono ?_
      rintro e w6 ⟨rfl, rfl⟩
      go_wp2_with fail
      go_roundw
      case rel => exact ⟨i + 1, by go_num, by omega, H5.out⟩
      case measure => simp [intOf]; omega
    · have g1 : decide (i < n) = false := by simpa using hin
      go_wp2_with fail
      refine (known18 _).mono ?_
      rintro e w3 ⟨rfl, ho3⟩
      have H3 := Lib.hid (HO.out.only ho3 (by simp) (by simp))
      clear HO ho3
      go_wp2_with fail
      refine (own_TakeS (t := 2) H3.out (-1) (by simp; omega) (told_came (.inl (by omega))) (by omega)).mono ?_
      rintro e w4 ⟨rfl, h4, _⟩
      have H4 := Lib.hid h4.out
      clear h4 H3
      go_wp2_with fail
      go_ret
      exact ⟨rfl, H4.out⟩

end Go.Proofs.Ytaldaaihkpckoaa
