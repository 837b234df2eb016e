/- Layer 11 (prio): numbers of 128 digits, and Above: plain laws and walks. -/
import Derived.Test.YtbboklmmnnedjaaProg
import Derived.Test.YtbboklmmnnedjaaMa
import Derived.Test.YtbboklmmnnedjaaMb
import Derived.Test.YtbboklmmnnedjaaPs
import Derived.WalkKit
import Derived.Lib.Hide
import Derived.Laws.Externs
import Derived.BigQuiet
import Derived.Deep.QuietTactic
import Derived.Deep.RegionWith
import Derived.IntWalk
import Derived.OpenShut
set_option linter.unusedVariables false
set_option linter.unusedSimpArgs false
namespace Go.Pr
def big : Nat := 18446744073709551616
def nextN (a d : Nat) : Nat := a * (d + 1)
def aboveN (a c b d : Nat) : Bool := decide (b * (c + 1) < a * (d + 1))
theorem mul_lt {a b : Nat} (ha : a < big) (hb : b < big) : a * b < big * big := Nat.mul_lt_mul'' ha hb
theorem next_lt {a d : Nat} (ha : a < big) (hd : d < big) : nextN a d < big * big := by
  unfold nextN
  exact Nat.lt_of_lt_of_le (Nat.mul_lt_mul_of_pos_right ha (by omega)) (Nat.mul_le_mul_left _ hd)
theorem next_split {a d : Nat} : nextN a d / big = a * d / big + (a * d % big + a) / big ∧ nextN a d % big = (a * d % big + a) % big := by
  unfold nextN
  rw [Nat.mul_succ]
  generalize a * d = P
  unfold big
  omega
theorem wide_lt {x y : Nat} : (y / big < x / big ∨ (x / big = y / big ∧ y % big < x % big)) ↔ y < x := by
  unfold big; omega
end Go.Pr
namespace Go.Proofs.Ytbboklmmnnedjaa
open Go.RowKit Go.Mk Go.Pr
attribute [-go_sem] Builtin.append_

theorem wrap_u64 (n : Int) : IntKind.u64.wrap n = n % 18446744073709551616 := by simp [IntKind.wrap, IntKind.bits, IntKind.signed]
theorem wraps_u64 (n : Int) (h₀ : 0 ≤ n) (h₁ : n < 2 ^ 64) : IntKind.u64.wrap n = n := by rw [wrap_u64]; omega
theorem call_Add64 (x y : Nat) (hx : x < big) (hy : y < big) (w : World) : (callFunc 42 #[.int .u64 x, .int .u64 y, .int .u64 0]).run Try.prog w =
    .ok (.value (.tuple #[.int .u64 (((x + y) % big : Nat) : Int), .int .u64 (((x + y) / big : Nat) : Int)])) w := by
  unfold big at *
  have h := run_add64 (P := Try.prog) x y 0 (by omega) (by omega) (by omega) (by omega) w
  rw [run_callFunc_extern Try.func42 (by kernel_rfl) (by kernel_rfl) (by kernel_rfl) (e := add64Entry) (by kernel_rfl)]
  rw [h]
  simp only [Result.andThen]
  congr 5 <;> omega

def wideV (n : Nat) : Array Value := #[.int .u64 ((n / big : Nat) : Int), .int .u64 ((n % big : Nat) : Int)]

set_option maxRecDepth 100000 in
set_option maxHeartbeats 1000000 in
theorem times_walk (a b : Nat) (w : World) (ha : a < big) (hb : b < big) :
    Calls Try.prog 41 #[.int .u64 a, .int .u64 b] w fun e w' => e = .returned (.agg (wideV (a * b))) ∧ Only [] w w' := by
  have C := Lib.hid (fun W => Try.bits_Mul64 a b ha hb W)
  unfold wideV big
  generalize a * b / 18446744073709551616 = H at *
  generalize a * b % 18446744073709551616 = L at *
  go_enter Try.func41, Try.ntmps41
  go_wp2_with fail
  refine (C.out _).mono ?_
  rintro e w' ⟨rfl, rfl⟩
  go_wp2_with fail
  exact bodyPost_ret (v := .agg #[.int .u64 (H : Int), .int .u64 (L : Int)]) (by simp [results, Try.results41, go_sem]) rfl ⟨rfl, (Only.refl _ _).alloc _⟩

set_option maxRecDepth 100000 in
set_option maxHeartbeats 2000000 in
theorem next_walk (a d : Nat) (w : World) (ha : a < big) (hd : d < big) :
    Calls Try.prog 29 #[.int .u64 a, .int .u64 d] w fun e w' => e = .returned (.agg (wideV (nextN a d))) ∧ Only [] w w' := by
  have oa : Only [] w (w.alloc (.cells #[.int .u64 0, .int .u64 0] 75)) := (Only.refl _ _).alloc _
  have hb := heap_alloc_new w (.cells #[.int .u64 0, .int .u64 0] 75)
  have C := Lib.hid (times_walk a d (w.alloc (.cells #[.int .u64 0, .int .u64 0] 75)) ha hd)
  have hsp := @next_split a d
  have hlt := next_lt ha hd
  have hL : a * d % big < big := Nat.mod_lt _ (by decide)
  have hN : nextN a d / big < big := Nat.div_lt_of_lt_mul hlt
  have AD := fun W => call_Add64 (a * d % big) a hL ha W
  have hHb : a * d / big < big := Nat.div_lt_of_lt_mul (mul_lt ha hd)
  have hC : (a * d % big + a) / big < big := by unfold big at *; omega
  unfold wideV at C ⊢
  generalize a * d / big = H at *
  generalize a * d % big = L at *
  rw [hsp.2]
  generalize (L + a) / big = K at *
  generalize (L + a) % big = M at *
  have hsum : IntKind.u64.wrap ((H : Int) + (K : Int)) = ((nextN a d / big : Nat) : Int) := by
    rw [hsp.1]
    have h1 := hsp.1
    unfold big at *
    rw [wraps_u64 _ (by omega) (by omega)]
    omega
  generalize nextN a d / big = N at *
  have HS := Lib.hid hsp
  have OA := Lib.hid oa
  have HB := Lib.hid hb
  have HB64 : Hid (H < big ∧ K < big) := Lib.hid ⟨hHb, hC⟩
  clear hsp hlt hL hN hHb hC oa hb
  go_enter Try.func29, Try.ntmps29
  go_wp2_with fail
  generalize w.alloc (.cells #[.int .u64 0, .int .u64 0] 75) = w1 at *
  generalize hrb : w.heap.size = rb at *
  have HR := Lib.hid hrb
  clear hrb
  refine C.out.mono ?_
  rintro e w2 ⟨rfl, o2⟩
  have O2 := Lib.hid (OA.out.trans o2)
  have hb2 := o2.blk HB.out (by simp)
  have r0 : w2.cell? ⟨rb, 0, none⟩ = some (.int .u64 0) := by rw [cell_of_blk hb2]; rfl
  have r1 : w2.cell? ⟨rb, 1, none⟩ = some (.int .u64 0) := by rw [cell_of_blk hb2]; rfl
  have fr : ∀ j, w2.frozen? ⟨rb, j, none⟩ = false := fun j => frozen_of_blk hb2
  have fr0 := fr 0
  have fr1 := fr 1
  have ltr := lt_of_blk hb2
  clear o2 hb2 fr C
  go_wp2_with fail
  exact bodyPost_ret (v := .agg #[.int .u64 (N : Int), .int .u64 (M : Int)]) (by simp [results, Try.results29, go_sem, *]) rfl ⟨rfl, O2.out.trans' ((((Only.refl [rb] w2).setCell (p := ⟨rb, 0, none⟩) (.inl (by simp)) _).setCell (p := ⟨rb, 1, none⟩) (.inl (by simp)) _).alloc _) (fun x hx hlt => by
    simp only [List.mem_singleton] at hx
    have := HR.out
    omega)⟩

set_option maxRecDepth 100000 in
set_option maxHeartbeats 2000000 in
theorem wabove_walk (x y : Nat) (w : World) :
    Calls Try.prog 30 #[.agg (wideV x), .agg (wideV y)] w fun e w' => e = .returned (.bool (decide (y < x))) ∧ Only [] w w' := by
  have hl := @wide_lt x y
  unfold wideV
  generalize x / big = a at *
  generalize x % big = b at *
  generalize y / big = c at *
  generalize y % big = d at *
  generalize hg : decide (y < x) = g
  rcases (show (c < a) ∨ (¬ c < a ∧ a = c ∧ d < b) ∨ (¬ c < a ∧ a = c ∧ ¬ d < b) ∨ (¬ c < a ∧ ¬ a = c) by omega) with h | ⟨h1, h2, h3⟩ | ⟨h1, h2, h3⟩ | ⟨h1, h2⟩
  · have HG := Lib.hid (show g = true by rw [← hg]; exact decide_eq_true (hl.1 (.inl h)))
    have q1 : decide (c < a) = true := decide_eq_true h
    clear hl hg h
    go_enter Try.func30, Try.ntmps30
    go_wp2_with fail
    go_ret
    exact ⟨by rw [HG.out]; rfl, ((Only.refl _ _).alloc _).alloc _⟩
  · have HG := Lib.hid (show g = true by rw [← hg]; exact decide_eq_true (hl.1 (.inr ⟨h2, h3⟩)))
    have q1 : decide (c < a) = false := decide_eq_false h1
    have q2 : ((a : Int) == (c : Int)) = true := by rw [beq_iff_eq]; omega
    have q3 : decide (d < b) = true := decide_eq_true h3
    clear hl hg h1 h2 h3
    go_enter Try.func30, Try.ntmps30
    go_wp2_with fail
    go_ret
    exact ⟨by rw [HG.out]; rfl, ((Only.refl _ _).alloc _).alloc _⟩
  · have HG := Lib.hid (show g = false by rw [← hg]; exact decide_eq_false (fun h => by have := hl.2 h; omega))
    have q1 : decide (c < a) = false := decide_eq_false h1
    have q2 : ((a : Int) == (c : Int)) = true := by rw [beq_iff_eq]; omega
    have q3 : decide (d < b) = false := decide_eq_false h3
    clear hl hg h1 h2 h3
    go_enter Try.func30, Try.ntmps30
    go_wp2_with fail
    go_ret
    exact ⟨by rw [HG.out]; rfl, ((Only.refl _ _).alloc _).alloc _⟩
  · have HG := Lib.hid (show g = false by rw [← hg]; exact decide_eq_false (fun h => by have := hl.2 h; omega))
    have q1 : decide (c < a) = false := decide_eq_false h1
    have q2 : ((a : Int) == (c : Int)) = false := by rw [beq_eq_false_iff_ne]; omega
    clear hl hg h1 h2
    go_enter Try.func30, Try.ntmps30
    go_wp2_with fail
    go_ret
    exact ⟨by rw [HG.out]; rfl, ((Only.refl _ _).alloc _).alloc _⟩

set_option maxRecDepth 100000 in
set_option maxHeartbeats 2000000 in
theorem above_walk (a c b d : Nat) (w : World) (ha : a < big) (hc : c < big) (hb : b < big) (hd : d < big) :
    Calls Try.prog 16 #[.int .u64 a, .int .u64 c, .int .u64 b, .int .u64 d] w fun e w' => e = .returned (.bool (aboveN a c b d)) ∧ Only [] w w' := by
  have C1 := Lib.hid (fun W => next_walk a d W ha hd)
  have C2 := Lib.hid (fun W => next_walk b c W hb hc)
  have C3 := Lib.hid (fun W => wabove_walk (nextN a d) (nextN b c) W)
  have hg : decide (nextN b c < nextN a d) = aboveN a c b d := rfl
  rw [hg] at C3
  unfold wideV at *
  generalize aboveN a c b d = g at *
  clear hg
  go_enter Try.func16, Try.ntmps16
  go_wp2_with fail
  refine (C1.out _).mono ?_
  rintro e w1 ⟨rfl, o1⟩
  have O1 := Lib.hid o1
  clear o1
  go_wp2_with fail
  refine (C2.out _).mono ?_
  rintro e w2 ⟨rfl, o2⟩
  have O2 := Lib.hid (O1.out.trans o2)
  clear o2
  go_wp2_with fail
  refine (C3.out _).mono ?_
  rintro e w3 ⟨rfl, o3⟩
  have O3 := Lib.hid (O2.out.trans o3)
  clear o3
  go_wp2_with fail
  go_ret
  exact ⟨rfl, O3.out⟩

end Go.Proofs.Ytbboklmmnnedjaa
