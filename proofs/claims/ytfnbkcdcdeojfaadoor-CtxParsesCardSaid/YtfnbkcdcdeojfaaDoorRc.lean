/- CtxParses, walked. -/
import Derived.Test.YtfnbkcdcdeojfaaDoorRb
set_option linter.unusedVariables false
set_option linter.unusedSimpArgs false
namespace Go.Proofs.YtfnbkcdcdeojfaaDoor
open Go.RowKit Go.Mk Go.Cx
attribute [-go_sem] Builtin.append_

theorem parse_code (l : List UInt8) : (parseL l).2 ≤ 31 := by
  unfold parseL
  split
  · exact Nat.le_refl _
  · split
    · exact Nat.le_refl _
    · split
      · simp
      · simp
theorem print_code (p : Pa) : (printL p).2 ≤ 1 := by
  unfold printL
  split <;> simp

set_option maxRecDepth 100000 in
set_option maxHeartbeats 2000000 in
theorem reads_walk (s : ByteArray) (m : Int) (w : World) (hs : s.size ≤ 100000) (hm : w.cell? ⟨0, 0, none⟩ = some (.int .i64 m)) :
    Calls Tryd.prog 15 #[.string s] w fun e w' => e = .returned (.bool true) ∧ Only [] w w' := by
  have g1 := guard_parent
  have e1 := eql_parent
  have hc := parse_code s.data.toList
  have C1 := Lib.hid (parse_walk s m w hs hm)
  have C2 : Hid (∀ W, Calls Tryd.prog 29 #[.string s] W fun e w' => e = .returned (.tuple #[.agg (paArr (parseL s.data.toList).1), .int .i64 ((parseL s.data.toList).2 : Nat)]) ∧ Only [] W w') := Lib.hid (fun W => rparse_walk s W hs)
  obtain ⟨⟨⟨a, b, c, d⟩, k⟩, hX⟩ : ∃ X, parseL s.data.toList = X := ⟨_, rfl⟩
  rw [hX] at C1 C2 hc
  simp only [paArr] at C1 C2 hc
  have hk : IntKind.i64.wrap (k : Int) = k := IntWalk.i64_in _ (by omega)
  have hk2 : (k : Int) ≤ 31 := by omega
  clear hX hm hc
  go_enter Tryd.func15, Tryd.ntmps15
  go_wp2_with fail
  refine C1.out.mono ?_
  rintro e w1 ⟨rfl, o1⟩
  have O1 := Lib.hid o1
  clear o1
  go_wp2_with fail
  have oa : Only [] w1 (w1.alloc (.cells #[.int .u64 (a : Int), .int .u64 (b : Int), .int .u64 (c : Int), .int .u8 (d : Int)] 33)) := (Only.refl _ _).alloc _
  have hb := heap_alloc_new w1 (.cells #[.int .u64 (a : Int), .int .u64 (b : Int), .int .u64 (c : Int), .int .u8 (d : Int)] 33)
  generalize w1.alloc (.cells #[.int .u64 (a : Int), .int .u64 (b : Int), .int .u64 (c : Int), .int .u8 (d : Int)] 33) = w2 at *
  generalize w1.heap.size = kb at *
  have O2 := Lib.hid (O1.out.trans oa)
  have HB := Lib.hid hb
  clear oa hb O1
  refine (C2.out _).mono ?_
  rintro e w3 ⟨rfl, o3⟩
  have O3 := Lib.hid (O2.out.trans o3)
  have hb3 := o3.blk HB.out (by simp)
  have a0 : w3.cell? ⟨kb, 0, none⟩ = some (.int .u64 (a : Int)) := by rw [cell_of_blk hb3]; rfl
  have a1 : w3.cell? ⟨kb, 1, none⟩ = some (.int .u64 (b : Int)) := by rw [cell_of_blk hb3]; rfl
  have a2 : w3.cell? ⟨kb, 2, none⟩ = some (.int .u64 (c : Int)) := by rw [cell_of_blk hb3]; rfl
  have a3 : w3.cell? ⟨kb, 3, none⟩ = some (.int .u8 (d : Int)) := by rw [cell_of_blk hb3]; rfl
  have lt := lt_of_blk hb3
  clear o3 hb3 O2 HB
  go_wp2_with fail
  go_ret
  exact ⟨rfl, O3.out.alloc _⟩

set_option maxRecDepth 100000 in
set_option maxHeartbeats 4000000 in
theorem parses_walk (s : ByteArray) (p : Pa) (k x : Nat) (m : Int) (w : World) (hs : s.size ≤ maxLen) (hp : p.hi < big ∧ p.lo < big ∧ p.span < big ∧ p.flags < 256) (hk : k < 256) (hx : x < 256) (hm : w.cell? ⟨0, 0, none⟩ = some (.int .i64 m)) :
    Calls Tryd.prog 5 #[.string s, .agg (paArr p), .int .u8 k, .int .u8 x] w fun e w' => e = .returned (.bool true) ∧ Only [] w w' := by
  have hs1 : (s.size : Int) ≤ 9223372036854775807 := by simp only [maxLen] at hs; omega
  have oa : Only [] w (w.alloc (.cells (paArr p) 33)) := (Only.refl _ _).alloc _
  have hb := heap_alloc_new w (.cells (paArr p) 33)
  have HP := Lib.hid hp
  have OA := Lib.hid oa
  have Hm1 := Lib.hid (oa.cell hm (by simp))
  have HB := Lib.hid hb
  have hpc := print_code p
  have CP : Hid (∀ W, Calls Tryd.prog 13 #[.agg (paArr p)] W fun e w' => e = .returned (.tuple #[.string ⟨(printL p).1.toArray⟩, .int .u16 ((printL p).2 : Nat)]) ∧ Only [] W w') := Lib.hid (fun W => print_walk p W hp)
  have CQ : Hid (∀ W, Calls Tryd.prog 14 #[.agg (paArr p)] W fun e w' => e = .returned (.tuple #[.string ⟨(printL p).1.toArray⟩, .int .i64 ((printL p).2 : Nat)]) ∧ Only [] W w') := Lib.hid (fun W => rprint_walk p W hp)
  obtain ⟨T, hT⟩ : ∃ T : ByteArray, T = ⟨(printL p).1.toArray⟩ := ⟨_, rfl⟩
  rw [← hT] at CP CQ
  obtain ⟨c, hc⟩ : ∃ c : Nat, (printL p).2 = c := ⟨_, rfl⟩
  rw [hc] at CP CQ hpc
  have hcw : IntKind.i64.wrap (c : Int) = c := IntWalk.i64_in _ (by omega)
  have hc2 : (c : Int) ≤ 1 := by omega
  obtain ⟨ph, pl, ps, pf⟩ := p
  simp only [paArr] at *
  clear oa hb hp hT hc hm hpc
  by_cases h200 : 200 < s.size
  · have g1 : decide ((200 : Int) < s.size) = true := decide_eq_true (by omega)
    clear h200 hs
    go_enter Tryd.func5, Tryd.ntmps5
    go_wp2_with fail
    refine (known04 m _ Hm1.out).mono ?_
    rintro e w1 ⟨rfl, o1⟩
    have O1 := Lib.hid (OA.out.trans o1)
    clear o1
    go_wp2_with fail
    go_ret
    exact ⟨rfl, O1.out⟩
  · have g1 : decide ((200 : Int) < s.size) = false := decide_eq_false (by omega)
    have e1 : ((k : Int)).tmod 55 = ((k % 55 : Nat) : Int) := by rw [Int.tmod_eq_emod_of_nonneg (by omega)]; omega
    have e3 : (k : Int) % 55 = ((k % 55 : Nat) : Int) := by omega
    have hi : k % 55 < 55 := by omega
    generalize k % 55 = i at *
    have hil : (i : Int) < 55 := by omega
    have HS := Lib.hid (show s.size ≤ 200 by omega)
    clear h200 hs
    go_enter Tryd.func5, Tryd.ntmps5
    go_wp2_with fail
    refine (known04 m _ Hm1.out).mono ?_
    rintro e w1 ⟨rfl, o1⟩
    have O1 := Lib.hid (OA.out.trans o1)
    have hb1 := o1.blk HB.out (by simp)
    have Hm2 := Lib.hid (o1.cell Hm1.out (by simp))
    generalize w.heap.size = kb at *
    have HB1 := Lib.hid hb1
    have a0 : w1.cell? ⟨kb, 0, none⟩ = some (.int .u64 (ph : Int)) := by rw [cell_of_blk hb1]; rfl
    have a1 : w1.cell? ⟨kb, 1, none⟩ = some (.int .u64 (pl : Int)) := by rw [cell_of_blk hb1]; rfl
    have a2 : w1.cell? ⟨kb, 2, none⟩ = some (.int .u64 (ps : Int)) := by rw [cell_of_blk hb1]; rfl
    have a3 : w1.cell? ⟨kb, 3, none⟩ = some (.int .u8 (pf : Int)) := by rw [cell_of_blk hb1]; rfl
    have lt := lt_of_blk hb1
    clear o1 hb1 OA Hm1 HB
    go_wp2_with fail
    refine (CP.out _).mono ?_
    rintro e w2 ⟨rfl, o2⟩
    have O2 := Lib.hid (O1.out.trans o2)
    have hb2 := o2.blk HB1.out (by simp)
    have Hm3 := Lib.hid (o2.cell Hm2.out (by simp))
    have b0 : w2.cell? ⟨kb, 0, none⟩ = some (.int .u64 (ph : Int)) := by rw [cell_of_blk hb2]; rfl
    have b1 : w2.cell? ⟨kb, 1, none⟩ = some (.int .u64 (pl : Int)) := by rw [cell_of_blk hb2]; rfl
    have b2 : w2.cell? ⟨kb, 2, none⟩ = some (.int .u64 (ps : Int)) := by rw [cell_of_blk hb2]; rfl
    have b3 : w2.cell? ⟨kb, 3, none⟩ = some (.int .u8 (pf : Int)) := by rw [cell_of_blk hb2]; rfl
    have lt2 := lt_of_blk hb2
    clear o2 hb2 O1 Hm2 HB1 a0 a1 a2 a3 lt
    go_wp2_with fail
    refine (CQ.out _).mono ?_
    rintro e w3 ⟨rfl, o3⟩
    have O3 := Lib.hid (O2.out.trans o3)
    have Hm4 := Lib.hid (o3.cell Hm3.out (by simp))
    clear o3 O2 Hm3 b0 b1 b2 b3 lt2
    obtain ⟨cx, hcx⟩ : ∃ cx, UInt8.ofNat x = cx := ⟨_, rfl⟩
    have cv : (convert 23 9 (.slice (some ⟨w3.heap.size, 0, none⟩) 1 1)).run Tryd.prog (w3.alloc (.cells #[.int .u8 (x : Int)] 5)).drew = .ok (.string ⟨#[cx]⟩) (w3.alloc (.cells #[.int .u8 (x : Int)] 5)).drew := by
      rw [← hcx]
      exact conv_nat x hx rfl (by simp)
    clear hcx
    have f1 : (0 : Int) ≤ i := by omega
    have f2 : (i : Int) ≤ 55 := by omega
    have f4 : IntKind.i64.wrap ((i : Int) + 1) = i + 1 := IntWalk.i64_in _ (by omega)
    have f5 : (0 : Int) ≤ (i : Int) + 1 := by omega
    have f6 : (i : Int) + 1 ≤ 55 := by omega
    have f7 : ((i : Int) + 1).toNat = i + 1 := by omega
    have ft : (T.toList == T.toList) = true := by simp
    go_wp2_with fail
    obtain ⟨S, hS⟩ : ∃ S : ByteArray, S = smallS := ⟨_, rfl⟩
    have hs := smallS_size
    rw [← hS] at hs
    unfold smallS at hS
    rw [← hS]
    clear hS
    go_region
    obtain ⟨B, hB⟩ : ∃ B : ByteArray, B = S.extract 0 i ++ ⟨#[cx]⟩ ++ S.extract (i + 1) 55 := ⟨_, rfl⟩
    rw [← hB]
    have hBs : B.size ≤ 100000 := by
      rw [hB, ← len_data, cat_data, cat_data, Lib.extract_data, Lib.extract_data]
      simp only [List.length_append, List.length_take, List.length_drop, List.length_cons, List.length_nil]
      have := len_data S
      omega
    have oa : Only [] w3 (w3.alloc (.cells #[.int .u8 (x : Int)] 5)).drew := ((Only.refl _ _).alloc _).drew
    generalize (w3.alloc (.cells #[.int .u8 (x : Int)] 5)).drew = w4 at *
    have O4 := Lib.hid (O3.out.trans oa)
    have Hm5 := Lib.hid (oa.cell Hm4.out (by simp))
    clear oa hB cv f1 f2 f4 f5 f6 f7 hi hil e1 e3 O3 Hm4
    go_wp2_with fail
    refine (reads_walk s m w4 (by have := HS.out; omega) Hm5.out).mono ?_
    rintro e w5 ⟨rfl, o5⟩
    have O5 := Lib.hid (O4.out.trans o5)
    have Hm6 := Lib.hid (o5.cell Hm5.out (by simp))
    clear o5 O4 Hm5
    go_wp2_with fail
    refine (reads_walk B m w5 hBs Hm6.out).mono ?_
    rintro e w6 ⟨rfl, o6⟩
    have O6 := Lib.hid (O5.out.trans o6)
    clear o6 O5 Hm6
    go_wp2_with fail
    go_ret
    exact ⟨rfl, O6.out⟩

end Go.Proofs.YtfnbkcdcdeojfaaDoor
