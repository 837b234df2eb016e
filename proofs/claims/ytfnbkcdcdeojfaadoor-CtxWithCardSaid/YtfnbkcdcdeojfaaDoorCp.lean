/- The chapter's examples of layer 4, walked; '==' of marks and of parents; the laws' own small functions. -/
import Derived.Test.YtfnbkcdcdeojfaaDoorCo
import Derived.Test.YtfnbkcdcdeojfaaDoorCc
import Derived.BigQuiet
import Derived.OpenShut
set_option linter.unusedVariables false
set_option linter.unusedSimpArgs false
namespace Go.Proofs.YtfnbkcdcdeojfaaDoor
open Go.RowKit Go.Mk Go.Cx
attribute [-go_sem] Builtin.append_

theorem guard_marks (op : BinOp) (x y : Operand) (xs ys : Array Value) (w : World) : (eqGuard op 29 x y (.agg xs) (.agg ys)).run Tryd.prog w = .ok () w :=
  run_eqGuard_agg w op 29 x y xs ys (by kernel_rfl)
theorem eql_marks (a : Bool) (b : Int) (c : Bool) (d : Int) (w : World) : (binOp .eql 29 (.agg #[.bool a, .int .u64 b, .bool c, .int .u64 d]) (.agg #[.bool a, .int .u64 b, .bool c, .int .u64 d])).run Tryd.prog w = .ok (.bool true) w := by
  have hS : Tryd.prog.underlying 29 = some (.struct (Tryd.prog.fieldsOf 29)) := by kernel_rfl
  have hp : Tryd.prog.stoodInHeld 29 = false := by kernel_rfl
  have he : (Op.equalIn 10000 29 (.agg #[.bool a, .int .u64 b, .bool c, .int .u64 d]) (.agg #[.bool a, .int .u64 b, .bool c, .int .u64 d])).run Tryd.prog w = .ok true w := by
    rw [show (10000 : Nat) = 9999 + 1 from rfl, run_equalIn_agg w 9999 29 _ _ hS hp]
    simp only [Program.fieldsOf, Tryd.underlying29]
    go_simp
  rw [run_eql_struct, he]; rfl
theorem guard_parent (op : BinOp) (x y : Operand) (xs ys : Array Value) (w : World) : (eqGuard op 33 x y (.agg xs) (.agg ys)).run Tryd.prog w = .ok () w :=
  run_eqGuard_agg w op 33 x y xs ys (by kernel_rfl)
theorem eql_parent (a b c d : Int) (w : World) : (binOp .eql 33 (.agg #[.int .u64 a, .int .u64 b, .int .u64 c, .int .u8 d]) (.agg #[.int .u64 a, .int .u64 b, .int .u64 c, .int .u8 d])).run Tryd.prog w = .ok (.bool true) w := by
  have hS : Tryd.prog.underlying 33 = some (.struct (Tryd.prog.fieldsOf 33)) := by kernel_rfl
  have hp : Tryd.prog.stoodInHeld 33 = false := by kernel_rfl
  have he : (Op.equalIn 10000 33 (.agg #[.int .u64 a, .int .u64 b, .int .u64 c, .int .u8 d]) (.agg #[.int .u64 a, .int .u64 b, .int .u64 c, .int .u8 d])).run Tryd.prog w = .ok true w := by
    rw [show (10000 : Nat) = 9999 + 1 from rfl, run_equalIn_agg w 9999 33 _ _ hS hp]
    simp only [Program.fieldsOf, Tryd.underlying33]
    go_simp
  rw [run_eql_struct, he]; rfl

set_option maxRecDepth 100000 in
set_option maxHeartbeats 2000000 in
theorem known04 (m : Int) (w : World) (hm : w.cell? ⟨0, 0, none⟩ = some (.int .i64 m)) : Calls Tryd.prog 11 #[] w fun e w' => e = .returned (.bool true) ∧ Only [] w w' := by
  have g1 := guard_marks
  have g2 := guard_parent
  have e1 := eql_marks
  have e2 := eql_parent
  have Hm := Lib.hid hm
  clear hm
  go_enter Tryd.func11, Tryd.ntmps11
  go_wp2_with fail
  refine (read_walk _ m w (by decide) Hm.out).mono ?_
  rintro e w1 ⟨rfl, o1⟩
  rw [known_read]
  have Hm1 := Lib.hid (o1.cell Hm.out (by simp))
  have O1 := Lib.hid o1
  clear o1 Hm
  simp only [mkArr]
  go_wp2_with fail
  have oa : Only [] w1 (w1.alloc (.cells #[.bool true, .int .u64 36028797018963968, .bool true, .int .u64 1] 29)) := (Only.refl _ _).alloc _
  have hb := heap_alloc_new w1 (.cells #[.bool true, .int .u64 36028797018963968, .bool true, .int .u64 1] 29)
  have Oa := Lib.hid (O1.out.trans oa)
  have Hma := Lib.hid (oa.cell Hm1.out (by simp))
  have HB := Lib.hid hb
  clear oa hb O1 Hm1
  refine (with_walk _ ⟨true, 4503599627370496, false, 0⟩ m _ (by decide) (by decide) (by decide) Hma.out).mono ?_
  rintro e w2 ⟨rfl, o2⟩
  rw [known_with]
  have Hm2 := Lib.hid (o2.cell Hma.out (by simp))
  have HB2 := Lib.hid (o2.blk HB.out (by simp))
  have O2 := Lib.hid (Oa.out.trans o2)
  clear o2 Hma HB Oa
  go_wp2_with fail
  refine (parse_walk ⟨knownP.toArray⟩ m w2 (by decide) Hm2.out).mono ?_
  rintro e w3 ⟨rfl, o3⟩
  rw [show (⟨knownP.toArray⟩ : ByteArray).data.toList = knownP from rfl, known_parse]
  have HB3 := Lib.hid (o3.blk HB2.out (by simp))
  have O3 := Lib.hid (O2.out.trans o3)
  clear o3 HB2 O2 Hm2
  simp only [paArr]
  go_wp2_with fail
  have oa : Only [] w3 (w3.alloc (.cells #[.int .u64 1, .int .u64 2, .int .u64 3, .int .u8 1] 33)) := (Only.refl _ _).alloc _
  have hb := heap_alloc_new w3 (.cells #[.int .u64 1, .int .u64 2, .int .u64 3, .int .u8 1] 33)
  have Oa := Lib.hid (O3.out.trans oa)
  have HBa := Lib.hid (oa.blk HB3.out (by simp))
  have HP := Lib.hid hb
  clear oa hb O3 HB3
  refine (print_walk ⟨1, 2, 3, 1⟩ _ (by decide)).mono ?_
  rintro e w4 ⟨rfl, o4⟩
  rw [known_print]
  have HB4 := o4.blk HBa.out (by simp)
  have HP4 := o4.blk HP.out (by simp)
  have O4 := Lib.hid (Oa.out.trans o4)
  clear o4 HBa HP Oa
  have a0 : w4.cell? ⟨w1.heap.size, 0, none⟩ = some (.bool true) := by rw [cell_of_blk HB4]; rfl
  have a1 : w4.cell? ⟨w1.heap.size, 1, none⟩ = some (.int .u64 36028797018963968) := by rw [cell_of_blk HB4]; rfl
  have a2 : w4.cell? ⟨w1.heap.size, 2, none⟩ = some (.bool true) := by rw [cell_of_blk HB4]; rfl
  have a3 : w4.cell? ⟨w1.heap.size, 3, none⟩ = some (.int .u64 1) := by rw [cell_of_blk HB4]; rfl
  have b0 : w4.cell? ⟨w3.heap.size, 0, none⟩ = some (.int .u64 1) := by rw [cell_of_blk HP4]; rfl
  have b1 : w4.cell? ⟨w3.heap.size, 1, none⟩ = some (.int .u64 2) := by rw [cell_of_blk HP4]; rfl
  have b2 : w4.cell? ⟨w3.heap.size, 2, none⟩ = some (.int .u64 3) := by rw [cell_of_blk HP4]; rfl
  have b3 : w4.cell? ⟨w3.heap.size, 3, none⟩ = some (.int .u8 1) := by rw [cell_of_blk HP4]; rfl
  have l1 := lt_of_blk HB4
  have l2 := lt_of_blk HP4
  have H4 := Lib.hid O4
  clear O4 HB4 HP4
  unfold knownP
  go_wp2_with fail
  go_ret
  exact ⟨rfl, H4.out⟩

end Go.Proofs.YtfnbkcdcdeojfaaDoor
