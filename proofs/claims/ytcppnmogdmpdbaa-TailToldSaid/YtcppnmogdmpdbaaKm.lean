/- TailTold: the law, walked. -/
import Derived.Test.YtcppnmogdmpdbaaKl
namespace Go.Proofs.Ytcppnmogdmpdbaa
open Go.RowKit Go.Mk Go.Hp
attribute [-go_sem] Builtin.append_

/-- What is known behind one decision. -/
def kn12 (keep : Bool) : Tr → Option Bool := fun k => if (((1 : Int), (2 : Int)) : Tr) = k then some keep else none

set_option maxRecDepth 100000 in
set_option maxHeartbeats 2000000 in
theorem told_walk (keep : Bool) (a : Option Addr) (len cap : Nat) (zs : List Int) (w : World) (h : InRow .u8 w a len cap zs) :
    Calls Try.prog 12 #[.bool keep, .slice a len cap] w fun e w' => e = .returned (.bool true) ∧ Only [] w w' := by
  obtain ⟨hl, hc⟩ := h.cells
  have hlm : (len : Int) ≤ 9223372036854775807 := by simp only [maxLen] at hl; omega
  clear hc h hl
  by_cases h60 : 50 < len
  · have g1 : decide (50 < (len : Int)) = true := decide_eq_true (by omega)
    go_enter Try.func12, Try.ntmps12
    go_wp2_with fail
    refine (town_new 50 5 10 (by omega) (by omega) (by omega) (by omega) (by omega) (by omega)).mono ?_
    rintro e w1 ⟨tp, rfl, h1⟩
    have H1 := Lib.hid h1
    clear h1
    go_wp2_with fail
    refine (known13 _).mono ?_
    rintro e w2 ⟨rfl, o2⟩
    have H2 := Lib.hid (H1.out.only o2 (by simp) (by simp)).out
    clear o2 H1
    go_wp2_with fail
    go_ret
    exact ⟨rfl, H2.out⟩
  have g1 : decide (50 < (len : Int)) = false := decide_eq_false (by omega)
  obtain ⟨kp, hkp⟩ : ∃ kp, kp = keep := ⟨_, rfl⟩
  cases keep
  all_goals
    go_enter Try.func12, Try.ntmps12
    go_wp2_with fail
    refine (tail_new 50 5 10 (by omega) (by omega) (by omega) (by omega) (by omega) (by omega)).mono ?_
    rintro e w1 ⟨b, Fh, rfl, h1, h2, h3⟩
    have H1 := Lib.hid h1
    have H2 := Lib.hid h2
    have H3 := Lib.hid h3
    clear h1 h2 h3
    go_wp2_with fail
    refine (decide_room H1.out 1 2 _ rfl (by simp) (by omega)).mono ?_
    rintro e w2 ⟨rfl, ov', k1, k2, k3⟩
    rw [← hkp] at k1
    have HO : Hid (TObj w [] w2 b.tp 50 5 10 0 0 (kn12 kp) []) := ⟨b, Fh, ov', _, _, rfl, k1, rfl, H2.out.trans' k2 (fun x hx hlt => absurd (H3.out x hx) (by omega)), fun x hx => ⟨(k3 x hx).elim (H3.out x) (fun h => Nat.le_trans H2.out.size h), by simp⟩, by simp⟩
    have Hkp := Lib.hid hkp
    clear k1 k2 k3 H1 H2 H3 hkp
    generalize b.tp = tp at *
    go_wp2_with fail
    go_loopw [7, 8, 9, 10, 11] (fun iv _ _ _ _ wr => ∃ (i : Nat) (now came : Int) (A : List Ab), iv = .int .i64 i ∧ i ≤ len ∧ now ≤ i ∧ came ≤ i ∧ spansA A = i ∧ TObj w [] wr tp 50 5 10 now came (kn12 kp) A) (fun iv _ _ _ _ _ => len - (intOf iv).toNat)
    case atStart => exact ⟨0, 0, 0, [], rfl, by omega, by omega, by omega, rfl, HO.out⟩
    case round =>
      obtain ⟨i, now, came, A, rfl, hi, hnow, hcame, hsp, hO⟩ := hrel
      have Hn := Lib.hid hO.num.1
      have HOr := Lib.hid hO
      have Hsp := Lib.hid hsp
      have Hcame := Lib.hid hcame
      have Hnow := Lib.hid hnow
      clear hO hsp hcame hnow HO
      by_cases hil : i < len
      · have g2 : decide (i < len) = true := decide_eq_true hil
        go_wp2_with fail
        refine (town_known HOr.out i (sp0 1 2) Hnow.out (by omega) kp rfl).mono ?_
        rintro e w3 ⟨rfl, h3, _⟩
        rw [Hkp.out]
        have H3 := Lib.hid h3
        clear h3 HOr
        go_wp2_with fail
        refine (town_take H3.out i (sp0 1 3) (Int.le_refl _) (by omega) (by simp [kn12, sp0]) (by rw [Hsp.out]; omega) (by have := Hcame.out; omega)).mono ?_
        rintro e w4 ⟨rfl, h4, _⟩
        have H4 := Lib.hid h4
        clear h4 H3
        go_wp2_with fail
        go_roundw
        case rel => exact ⟨i + 1, i, _, _, by go_num, by omega, by omega, by have := came_le A came (1, 3); have := Hcame.out; simp only [sp0]; omega, by rw [spans_take Hn.out, Hsp.out], H4.out⟩
        case measure => simp [intOf]; omega
      · have g2 : decide (i < len) = false := decide_eq_false hil
        have hil2 : i = len := by omega
        have hfin : ((spansA A : Nat) : Int) = (len : Int) := by rw [Hsp.out, hil2]
        have Hf := Lib.hid hfin
        clear hfin hil2
        go_wp2_with fail
        refine (known13 _).mono ?_
        rintro e w5 ⟨rfl, o5⟩
        have H5 := Lib.hid (HOr.out.only o5 (by simp) (by simp))
        clear o5 HOr
        go_wp2_with fail
        refine (town_Len H5.out).mono ?_
        rintro e w6 ⟨rfl, rfl⟩
        rw [Hf.out]
        go_wp2_with fail
        go_ret
        exact ⟨rfl, H5.out.out⟩

end Go.Proofs.Ytcppnmogdmpdbaa
