/- The law PrioAbove, walked. -/
import Derived.Test.YtbboklmmnnedjaaUa
set_option linter.unusedVariables false
set_option linter.unusedSimpArgs false
namespace Go.Pr
theorem above_asymm {a c b d : Nat} (h : aboveN a c b d = true) : aboveN b d a c = false := by
  unfold aboveN at *
  rw [decide_eq_true_iff] at h
  rw [decide_eq_false_iff_not]
  omega
theorem above_irr (a c : Nat) : aboveN a c a c = false := by
  unfold aboveN
  rw [decide_eq_false_iff_not]
  omega
theorem above_next {a c : Nat} (h : 0 < a) : aboveN a c a (c + 1) = true := by
  unfold aboveN
  rw [decide_eq_true_iff]
  exact Nat.mul_lt_mul_of_pos_left (by omega) h
theorem above_next0 (c d : Nat) : aboveN 0 c 0 d = false := by
  unfold aboveN
  rw [decide_eq_false_iff_not]
  omega
theorem above_last {a : Nat} : aboveN a (big - 1) a 0 = false := by
  unfold aboveN big
  rw [decide_eq_false_iff_not]
  omega
end Go.Pr

namespace Go.Proofs.Ytbboklmmnnedjaa
open Go.RowKit Go.Mk Go.Pr

set_option maxRecDepth 100000 in
set_option maxHeartbeats 4000000 in
theorem law_above (a c b d e f g h : Nat) (w : World) (ha : a < big) (hc : c < big) (hb : b < big) (hd : d < big) (he : e < 256) (hf : f < 256) (hg : g < 256) (hh : h < 256) (p : Bool) (hp : aboveN a c b d = p) (x : Bool) (hx : aboveN e f g h = x) (c' : Nat) (hc' : (c + 1) % big = c') (r : Bool) (hr : aboveN a c a c' = r) (r1 r2 : Bool) (hr1 : decide (0 < a) = r1) (hr2 : decide (0 < c') = r2) (hrr : r = (r1 && r2)) :
    Calls Try.prog 6 #[.int .u64 a, .int .u64 c, .int .u64 b, .int .u64 d, .int .u8 e, .int .u8 f, .int .u8 g, .int .u8 h] w fun e w' => e = .returned (.bool true) ∧ Only [] w w' := by
  have hK := Lib.hid known_walk
  have hcb : c' < big := by rw [← hc']; exact Nat.mod_lt _ (by decide)
  have A1 := Lib.hid (fun W => above_walk e f g h W (by unfold big; omega) (by unfold big; omega) (by unfold big; omega) (by unfold big; omega))
  have A2 := Lib.hid (fun W => above_walk a c b d W ha hc hb hd)
  have A3 := Lib.hid (fun W => rabove_walk a c b d W ha hc hb hd)
  have A4 := Lib.hid (fun W => above_walk b d a c W hb hd ha hc)
  have A5 := Lib.hid (fun W => above_walk a c a c W ha hc ha hc)
  have A6 := Lib.hid (fun W => above_walk a c a c' W ha hc ha hcb)
  rw [hx] at A1
  rw [hp] at A2 A3
  rw [above_irr] at A5
  rw [hr] at A6
  have A4' : p = true → Hid (∀ W, Calls Try.prog 16 #[.int .u64 b, .int .u64 d, .int .u64 a, .int .u64 c] W fun e w' => e = .returned (.bool false) ∧ Only [] W w') := by
    intro h1
    rw [h1] at hp
    rw [above_asymm hp] at A4
    exact A4
  have HA4 := Lib.hid A4'
  obtain ⟨P, hP⟩ : ∃ P, P = e * (h + 1) := ⟨_, rfl⟩
  obtain ⟨Q, hQ⟩ : ∃ Q, Q = g * (f + 1) := ⟨_, rfl⟩
  have bP : P ≤ 65536 := by rw [hP]; exact Nat.le_trans (Nat.mul_le_mul (by omega : e ≤ 256) (by omega : h + 1 ≤ 256)) (by decide)
  have bQ : Q ≤ 65536 := by rw [hQ]; exact Nat.le_trans (Nat.mul_le_mul (by omega : g ≤ 256) (by omega : f + 1 ≤ 256)) (by decide)
  have m1 : (e : Int) * ((h : Int) + 1) = (P : Int) := by rw [hP]; simp
  have m2 : (g : Int) * ((f : Int) + 1) = (Q : Int) := by rw [hQ]; simp
  have tx : decide (Q < P) = x := by rw [← hx, hQ, hP]; rfl
  have mc : IntKind.u64.wrap ((c : Int) + 1) = (c' : Int) := by rw [wrap_u64]; unfold big at *; omega
  have H0 := Lib.hid (And.intro hP hQ)
  clear hp hx hr A4 A4' hP hQ hc'
  unfold big at *
  have i1 : decide ((0 : Int) < (a : Int)) = r1 := by rw [← hr1]; simp
  have i2 : decide ((0 : Int) < (c' : Int)) = r2 := by rw [← hr2]; simp
  have ix : decide ((Q : Int) < (P : Int)) = x := by rw [← tx]; simp
  have Hw := Lib.hid hrr
  clear hrr
  cases p
  · cases r1 <;>
    (have hrr := Hw.out
     simp only [Bool.and_true, Bool.and_false, Bool.true_and, Bool.false_and] at hrr
     subst hrr
     clear Hw
     go_enter Try.func6, Try.ntmps6
     go_wp2_with fail
     refine (A1.out _).mono ?_
     rintro _ w1 ⟨rfl, o1⟩
     go_wp2_with fail
     refine (hK.out _).mono ?_
     rintro _ w2 ⟨rfl, o2⟩
     go_wp2_with fail
     refine (A2.out _).mono ?_
     rintro _ w3 ⟨rfl, o3⟩
     go_wp2_with fail
     refine (A3.out _).mono ?_
     rintro _ w3 ⟨rfl, rfl⟩
     go_wp2_with fail
     refine (A2.out _).mono ?_
     rintro _ w4 ⟨rfl, o4⟩
     have O4 := Lib.hid (((o1.trans o2).trans o3).trans o4)
     clear o1 o2 o3 o4
     go_wp2_with fail
     refine (A5.out _).mono ?_
     rintro _ w6 ⟨rfl, o6⟩
     have O6 := Lib.hid (O4.out.trans o6)
     clear o6
     go_wp2_with fail
     refine (A6.out _).mono ?_
     rintro _ w7 ⟨rfl, o7⟩
     go_wp2_with fail
     go_ret
     exact ⟨rfl, O6.out.trans o7⟩)
  · cases r1 <;>
    (have hrr := Hw.out
     simp only [Bool.and_true, Bool.and_false, Bool.true_and, Bool.false_and] at hrr
     subst hrr
     clear Hw
     go_enter Try.func6, Try.ntmps6
     go_wp2_with fail
     refine (A1.out _).mono ?_
     rintro _ w1 ⟨rfl, o1⟩
     go_wp2_with fail
     refine (hK.out _).mono ?_
     rintro _ w2 ⟨rfl, o2⟩
     go_wp2_with fail
     refine (A2.out _).mono ?_
     rintro _ w3 ⟨rfl, o3⟩
     go_wp2_with fail
     refine (A3.out _).mono ?_
     rintro _ w3 ⟨rfl, rfl⟩
     go_wp2_with fail
     refine (A2.out _).mono ?_
     rintro _ w4 ⟨rfl, o4⟩
     have O4 := Lib.hid (((o1.trans o2).trans o3).trans o4)
     clear o1 o2 o3 o4
     go_wp2_with fail
     refine ((HA4.out (by first | rfl | trivial)).out _).mono ?_
     rintro _ w5 ⟨rfl, o5⟩
     have O5 := Lib.hid (O4.out.trans o5)
     clear o5
     go_wp2_with fail
     refine (A5.out _).mono ?_
     rintro _ w6 ⟨rfl, o6⟩
     have O6 := Lib.hid (O5.out.trans o6)
     clear o6
     go_wp2_with fail
     refine (A6.out _).mono ?_
     rintro _ w7 ⟨rfl, o7⟩
     go_wp2_with fail
     go_ret
     exact ⟨rfl, O6.out.trans o7⟩)

end Go.Proofs.Ytbboklmmnnedjaa
