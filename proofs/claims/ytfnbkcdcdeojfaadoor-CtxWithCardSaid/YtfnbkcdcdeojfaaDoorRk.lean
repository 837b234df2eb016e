/- CtxWith, walked. -/
import Derived.Test.YtfnbkcdcdeojfaaDoorRj
import Derived.Deep.RegionHeld3
set_option linter.unusedVariables false
set_option linter.unusedSimpArgs false
namespace Go.Proofs.YtfnbkcdcdeojfaaDoor
open Go.RowKit Go.Mk Go.Cx
attribute [-go_sem] Builtin.append_

theorem read_code (l : List UInt8) : (readL l).2 ≤ 31 := by
  unfold readL
  split
  · simp
  · split
    · simp
    · split
      · simp
      · split
        · simp
        · simp
theorem with_code (l : List UInt8) (mk : Mk) : (withL l mk).2 ≤ 31 := by
  unfold withL
  split
  · exact read_code l
  · split
    · simp
    · split
      · simp
      · simp

set_option maxRecDepth 100000 in
set_option maxHeartbeats 2000000 in
theorem lays_walk (s : ByteArray) (mk : Mk) (m : Int) (w : World) (hs : s.size ≤ 80000) (ht : mk.t < big) (hr : mk.r < big) (hm : w.cell? ⟨0, 0, none⟩ = some (.int .i64 m)) :
    Calls Tryd.prog 16 #[.string s, .agg (mkArr mk)] w fun e w' => e = .returned (.bool true) ∧ Only [] w w' := by
  have oa : Only [] w (w.alloc (.cells (mkArr mk) 29)) := (Only.refl _ _).alloc _
  have hb := heap_alloc_new w (.cells (mkArr mk) 29)
  have hc := with_code s.data.toList mk
  have Hm1 := Lib.hid (oa.cell hm (by simp))
  have C1 : Hid (∀ W, W.cell? ⟨0, 0, none⟩ = some (.int .i64 m) → Calls Tryd.prog 10 #[.string s, .agg (mkArr mk)] W fun e w' => e = .returned (.tuple #[.string ⟨(withL s.data.toList mk).1.toArray⟩, .int .u16 ((withL s.data.toList mk).2 : Nat)]) ∧ Only [] W w') := Lib.hid (fun W h => with_walk s mk m W (by omega) ht hr h)
  have C2 : Hid (∀ W, Calls Tryd.prog 30 #[.string s, .agg (mkArr mk)] W fun e w' => e = .returned (.tuple #[.string ⟨(withL s.data.toList mk).1.toArray⟩, .int .i64 ((withL s.data.toList mk).2 : Nat)]) ∧ Only [] W w') := Lib.hid (fun W => rwith_walk s mk W hs ht hr)
  obtain ⟨T, hT⟩ : ∃ T : ByteArray, T = ⟨(withL s.data.toList mk).1.toArray⟩ := ⟨_, rfl⟩
  rw [← hT] at C1 C2
  obtain ⟨k, hk⟩ : ∃ k : Nat, (withL s.data.toList mk).2 = k := ⟨_, rfl⟩
  rw [hk] at C1 C2 hc
  have hkw : IntKind.i64.wrap (k : Int) = k := IntWalk.i64_in _ (by omega)
  have hk2 : (k : Int) ≤ 31 := by omega
  have OA := Lib.hid oa
  have HB := Lib.hid hb
  clear hT hk hc oa hb hm ht hr
  obtain ⟨kT, kt, kR, kr⟩ := mk
  simp only [mkArr] at *
  have ft : (T.toList == T.toList) = true := by simp
  go_enter Tryd.func16, Tryd.ntmps16
  go_wp2_with fail
  refine (C1.out _ Hm1.out).mono ?_
  rintro e w2 ⟨rfl, o2⟩
  have O2 := Lib.hid (OA.out.trans o2)
  have hb2 := o2.blk HB.out (by simp)
  generalize w.heap.size = kb at *
  have b0 : w2.cell? ⟨kb, 0, none⟩ = some (.bool kT) := by rw [cell_of_blk hb2]; rfl
  have b1 : w2.cell? ⟨kb, 1, none⟩ = some (.int .u64 (kt : Int)) := by rw [cell_of_blk hb2]; rfl
  have b2 : w2.cell? ⟨kb, 2, none⟩ = some (.bool kR) := by rw [cell_of_blk hb2]; rfl
  have b3 : w2.cell? ⟨kb, 3, none⟩ = some (.int .u64 (kr : Int)) := by rw [cell_of_blk hb2]; rfl
  have lt2 := lt_of_blk hb2
  clear o2 hb2 OA HB Hm1
  go_wp2_with fail
  refine (C2.out _).mono ?_
  rintro e w3 ⟨rfl, o3⟩
  have O3 := Lib.hid (O2.out.trans o3)
  clear o3 O2 b0 b1 b2 b3 lt2
  go_wp2_with fail
  go_ret
  exact ⟨rfl, O3.out⟩

set_option maxRecDepth 100000 in
set_option maxHeartbeats 4000000 in
theorem withlaw_walk (s : ByteArray) (mk : Mk) (p : Option Addr) (len cap a b t r : Nat) (m : Int) (w : World) (hs : s.size ≤ maxLen) (hkt : mk.t < big) (hkr : mk.r < big) (h : Bytes8 w p len) (ha : a < 256) (hb : b < 256) (ht : t < big) (hr : r < big) (hm : w.cell? ⟨0, 0, none⟩ = some (.int .i64 m)) :
    Calls Tryd.prog 6 #[.string s, .agg (mkArr mk), .slice p len cap, .int .u8 a, .int .u8 b, .int .u64 t, .int .u64 r] w fun e w' => e = .returned (.bool true) ∧ Only [] w w' := by
  have hs1 : (s.size : Int) ≤ 9223372036854775807 := by simp only [maxLen] at hs; omega
  have oa : Only [] w (w.alloc (.cells (mkArr mk) 29)) := (Only.refl _ _).alloc _
  have hbx := heap_alloc_new w (.cells (mkArr mk) 29)
  have OA := Lib.hid oa
  have Hm1 := Lib.hid (oa.cell hm (by simp))
  have HB := Lib.hid hbx
  have H1 := Lib.hid (h.only oa (by simp))
  obtain ⟨kT, kt, kR, kr⟩ := mk
  simp only [mkArr] at *
  clear oa hbx hm h
  by_cases h600 : 600 < s.size
  · have g1 : decide ((600 : Int) < s.size) = true := decide_eq_true (by omega)
    clear h600 hs
    go_enter Tryd.func6, Tryd.ntmps6
    go_wp2_with fail
    refine (known04 m _ Hm1.out).mono ?_
    rintro e w1 ⟨rfl, o1⟩
    have O1 := Lib.hid (OA.out.trans o1)
    clear o1
    go_wp2_with fail
    go_ret
    exact ⟨rfl, O1.out⟩
  · have g1 : decide ((600 : Int) < s.size) = false := decide_eq_false (by omega)
    have hs600 : s.size ≤ 600 := by omega
    clear h600 hs
    go_enter Tryd.func6, Tryd.ntmps6
    go_wp2_with fail
    refine (known04 m _ Hm1.out).mono ?_
    rintro e w1 ⟨rfl, o1⟩
    have O1 := Lib.hid (OA.out.trans o1)
    have hb1 := o1.blk HB.out (by simp)
    have H2 := Lib.hid (H1.out.only o1 (by simp))
    have Hm2 := Lib.hid (o1.cell Hm1.out (by simp))
    generalize w.heap.size = kb at *
    have HB1 := Lib.hid hb1
    have a0 : w1.cell? ⟨kb, 0, none⟩ = some (.bool kT) := by rw [cell_of_blk hb1]; rfl
    have a1 : w1.cell? ⟨kb, 1, none⟩ = some (.int .u64 (kt : Int)) := by rw [cell_of_blk hb1]; rfl
    have a2 : w1.cell? ⟨kb, 2, none⟩ = some (.bool kR) := by rw [cell_of_blk hb1]; rfl
    have a3 : w1.cell? ⟨kb, 3, none⟩ = some (.int .u64 (kr : Int)) := by rw [cell_of_blk hb1]; rfl
    have lt1 := lt_of_blk hb1
    clear o1 hb1 OA HB Hm1 H1
    go_wp2_with fail
    refine (lays_walk s ⟨kT, kt, kR, kr⟩ m _ (by omega) hkt hkr Hm2.out).mono ?_
    rintro e w2 ⟨rfl, o2⟩
    have O2 := Lib.hid (O1.out.trans o2)
    have hb2 := o2.blk HB1.out (by simp)
    have H3 := Lib.hid (H2.out.only o2 (by simp))
    have Hm3 := Lib.hid (o2.cell Hm2.out (by simp))
    have Hth : Hid (∀ W, Only [] w2 W → W.cell? ⟨kb, 0, none⟩ = some (.bool kT) ∧ W.cell? ⟨kb, 1, none⟩ = some (.int .u64 (kt : Int)) ∧ W.cell? ⟨kb, 2, none⟩ = some (.bool kR) ∧ W.cell? ⟨kb, 3, none⟩ = some (.int .u64 (kr : Int)) ∧ kb < W.heap.size) := Lib.hid (fun W o => by
      have hb := o.blk hb2 (by simp)
      refine ⟨?_, ?_, ?_, ?_, lt_of_blk hb⟩ <;> (rw [cell_of_blk hb]; rfl))
    clear o2 hb2 O1 Hm2 HB1 a0 a1 a2 a3 lt1 H2
    go_wp2_with fail
    go_region_held3 (fun W => W.cell? ⟨kb, 0, none⟩ = some (.bool kT) ∧ W.cell? ⟨kb, 1, none⟩ = some (.int .u64 (kt : Int)) ∧ W.cell? ⟨kb, 2, none⟩ = some (.bool kR) ∧ W.cell? ⟨kb, 3, none⟩ = some (.int .u64 (kr : Int)) ∧ kb < W.heap.size) ((refine Hth.out _ ?_; first | assumption | exact (Only.refl _ _).drew))
      ((first
      | (go_at_call 17; refine (state_walk p len cap _ (H3.out.only (S := []) (by first | assumption | exact (Only.refl _ _).drew) (by simp))).mono ?_; rintro e w3 ⟨s1, rfl, hs1', o3⟩; have o4 := Only.trans (S := []) (a := w2) (by first | assumption | exact (Only.refl _ _).drew) o3; clear o3)
      | (go_at_call 18; refine (lawmarks_walk a b t r _ ha hb ht hr).mono ?_; rintro e w4 ⟨⟨mT, mt, mR, mr⟩, rfl, hmt, hmr, o5⟩; simp only [mkArr]; have o6 := Only.trans (S := []) (a := w2) (by assumption) o5; clear o5)
      | (go_at_call 16; refine (lays_walk _ ⟨_, _, _, _⟩ m _ (by omega) (by assumption) (by assumption) ((by assumption : Only [] w2 _).cell Hm3.out (by simp))).mono ?_; rintro e w5 ⟨rfl, o7⟩; have o8 := Only.trans (S := []) (a := w2) (by assumption) o7; clear o7)))
    go_wp2_with fail
    go_ret
    exact ⟨rfl, O2.out.trans (by assumption)⟩

end Go.Proofs.YtfnbkcdcdeojfaaDoor
