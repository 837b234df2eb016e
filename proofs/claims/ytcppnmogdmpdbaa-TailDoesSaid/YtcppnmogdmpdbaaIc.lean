/- The chapter's example of layer 10, walked; and '==' of two timers. -/
import Derived.Test.YtcppnmogdmpdbaaIb
set_option linter.unusedVariables false
set_option linter.unusedSimpArgs false
namespace Go.Proofs.Ytcppnmogdmpdbaa
open Go.RowKit Go.Mk Go.Hp
attribute [-go_sem] Builtin.append_

theorem guard_timer (op : BinOp) (x y : Operand) (xs ys : Array Value) (w : World) : (eqGuard op 30 x y (.agg xs) (.agg ys)).run Try.prog w = .ok () w :=
  run_eqGuard_agg w op 30 x y xs ys (by kernel_rfl)
theorem equal_timer (a b c d : Int) (w : World) : (Op.equalIn 10000 30 (.agg #[.int .i64 a, .int .i64 b]) (.agg #[.int .i64 c, .int .i64 d])).run Try.prog w = .ok (a == c && b == d) w := by
  have hS : Try.prog.underlying 30 = some (.struct (Try.prog.fieldsOf 30)) := by kernel_rfl
  have hp : Try.prog.stoodInHeld 30 = false := by kernel_rfl
  rw [show (10000 : Nat) = 9999 + 1 from rfl, run_equalIn_agg w 9999 30 _ _ hS hp]
  simp only [Program.fieldsOf, Try.underlying30]
  go_simp
  by_cases h1 : a = c <;> by_cases h2 : b = d <;> simp [h1, h2]
theorem eql_timer (a b c d : Int) (w : World) : (binOp .eql 30 (.agg #[.int .i64 a, .int .i64 b]) (.agg #[.int .i64 c, .int .i64 d])).run Try.prog w = .ok (.bool (a == c && b == d)) w := by
  rw [run_eql_struct, equal_timer]; rfl
theorem neq_timer (a b c d : Int) (w : World) : (binOp .neq 30 (.agg #[.int .i64 a, .int .i64 b]) (.agg #[.int .i64 c, .int .i64 d])).run Try.prog w = .ok (.bool (!(a == c && b == d))) w := by
  rw [run_neq_struct, equal_timer]; rfl

set_option maxRecDepth 100000 in
set_option maxHeartbeats 2000000 in
theorem known10 (w : World) : Calls Try.prog 15 #[] w fun e w' => e = .returned (.bool true) ∧ Only [] w w' := by
  have hg := guard_timer
  have he := eql_timer
  go_enter Try.func15, Try.ntmps15
  go_wp2_with fail
  refine (heap_new 5 (by omega) (by omega)).mono ?_
  rintro e w1 ⟨hp, F, rfl, h1, hF, o1⟩
  go_wp2_with fail
  refine (heap_new_nil 0 (by omega)).mono ?_
  rintro e w2 ⟨rfl, hw⟩
  subst hw
  go_wp2_with fail
  refine (heap_new_nil 5001 (by omega)).mono ?_
  rintro e w2 ⟨rfl, hw⟩
  subst hw
  go_wp2_with fail
  refine (heap_Push h1 (5, 1) (by decide)).mono ?_
  rintro e w3 ⟨rfl, F3, h3, o3, hF3⟩
  go_wp2_with fail
  refine (heap_Push h3 (3, 2) (by decide)).mono ?_
  rintro e w4 ⟨rfl, F4, h4, o4, hF4⟩
  go_wp2_with fail
  refine (heap_Pop h4).mono ?_
  rintro e w5 ⟨he5, h5, o5⟩
  have hb : firstV (insT (3, 2) (insT (5, 1) [])) = .tuple #[.agg #[.int .i64 3, .int .i64 2], .bool true] := rfl
  rw [hb] at he5
  subst he5
  have hS5 : (insT (3, 2) (insT (5, 1) [])).tail = [(5, 1)] := rfl
  rw [hS5] at h5
  have o14 : Only [] w w4 := (o1.trans' o3 (fun x hx hlt => absurd (hF x hx) (by omega))).trans' o4 (fun x hx hlt => by
    rcases hF3 x hx with h | h
    · exact absurd (hF x h) (by omega)
    · exact absurd (Nat.le_trans o1.size h) (by omega))
  have o15 : Only [] w w5 := o14.trans' o5 (fun x hx hlt => by
    rcases hF4 x hx with h | h
    · rcases hF3 x h with h | h
      · exact absurd (hF x h) (by omega)
      · exact absurd (Nat.le_trans o1.size h) (by omega)
    · exact absurd (Nat.le_trans (Nat.le_trans o1.size o3.size) h) (by omega))
  clear hb hS5 h1 h3 h4 o1 o3 o4 o5 o14 hF hF3 hF4
  go_wp2_with fail
  have oa : Only [] w5 (w5.alloc (.cells #[.int .i64 3, .int .i64 2] 30)) := (Only.refl _ _).alloc _
  have k0 : (w5.alloc (.cells #[.int .i64 3, .int .i64 2] 30)).cell? ⟨w5.heap.size, 0, none⟩ = some (.int .i64 3) := by simp
  have k1 : (w5.alloc (.cells #[.int .i64 3, .int .i64 2] 30)).cell? ⟨w5.heap.size, 1, none⟩ = some (.int .i64 2) := by simp
  have h6 := h5.only oa (by simp)
  refine (heap_Push_not h6 (3, 1) (by decide)).mono ?_
  rintro e w6 ⟨he6, o6⟩
  have hb : pushTold (3, 1) [(5, 1)] 5 = 1 := by decide
  rw [hb] at he6
  subst he6
  have e0 := o6.cell k0 (by simp)
  have e1 := o6.cell k1 (by simp)
  have h7 := Lib.hid (heap_len (h6.only o6 (by simp)))
  have o16 := (o15.trans oa).trans o6
  clear hb h6 h5 oa k0 k1 o6 o15
  go_wp2_with fail
  refine h7.out.mono ?_
  rintro e w7 ⟨rfl, hw⟩
  subst hw
  go_wp2_with fail
  go_ret
  exact ⟨rfl, o16⟩

end Go.Proofs.Ytcppnmogdmpdbaa
