/- Laws of layer 4, walked: CtxBack, CtxTwice. -/
import Derived.Test.YtfnbkcdcdeojfaaDoorCq
import Derived.Deep.RegionHeld3
set_option linter.unusedVariables false
set_option linter.unusedSimpArgs false
namespace Go.Proofs.YtfnbkcdcdeojfaaDoor
open Go.RowKit Go.Mk Go.Cx
attribute [-go_sem] Builtin.append_

theorem with_u (s : List UInt8) (mk : Mk) : (withL s mk).2 ≠ 0 → (withL s mk).1 = [] := by
  unfold withL
  split
  · intro _; rfl
  · split
    · intro _; rfl
    · split
      · intro _; rfl
      · intro h; exact absurd rfl h
theorem with_size (s : List UInt8) (mk : Mk) : (withL s mk).1.length ≤ 512 := by
  unfold withL
  split
  · simp
  · split
    · simp
    · split
      · simp
      · simp; omega

def boxM (mk : Mk) : Obj := .cells #[.bool mk.hasT, .int .u64 (mk.t : Int), .bool mk.hasR, .int .u64 (mk.r : Int)] 29

set_option maxRecDepth 100000 in
set_option maxHeartbeats 2000000 in
theorem back_walk (p : Option Addr) (len cap a b t r : Nat) (m : Int) (w : World) (h : Bytes8 w p len) (ha : a < 256) (hb : b < 256) (ht : t < big) (hr : r < big) (hm : w.cell? ⟨0, 0, none⟩ = some (.int .i64 m)) :
    Calls Tryd.prog 7 #[.slice p len cap, .int .u8 a, .int .u8 b, .int .u64 t, .int .u64 r] w fun e w' => e = .returned (.bool true) ∧ Only [] w w' := by
  have g1 := guard_marks
  have e1 := eql_marks
  have H := Lib.hid h
  have Hm := Lib.hid hm
  clear h hm
  go_enter Tryd.func7, Tryd.ntmps7
  go_wp2_with fail
  refine (lawmarks_walk a b t r w ha hb ht hr).mono ?_
  rintro e w1 ⟨mk, rfl, hmt, hmr, o1⟩
  have H1 := Lib.hid (H.out.only o1 (by simp))
  have Hm1 := Lib.hid (o1.cell Hm.out (by simp))
  have O1 := Lib.hid o1
  have HK := Lib.hid (And.intro hmt hmr)
  clear o1 H Hm hmt hmr
  obtain ⟨kT, kt, kR, kr⟩ := mk
  simp only [mkArr]
  go_wp2_with fail
  have oa : Only [] w1 (w1.alloc (boxM ⟨kT, kt, kR, kr⟩)) := (Only.refl _ _).alloc _
  have hbx : (w1.alloc (boxM ⟨kT, kt, kR, kr⟩)).heap[w1.heap.size]? = some (.cells #[.bool kT, .int .u64 (kt : Int), .bool kR, .int .u64 (kr : Int)] 29 (0, 0)) := heap_alloc_new w1 (boxM ⟨kT, kt, kR, kr⟩)
  unfold boxM at oa hbx
  simp only at oa hbx
  generalize w1.alloc (.cells #[.bool kT, .int .u64 (kt : Int), .bool kR, .int .u64 (kr : Int)] 29) = w2 at *
  generalize w1.heap.size = kb at *
  have Hth : Hid (∀ W, Only [] w2 W → W.cell? ⟨kb, 0, none⟩ = some (.bool kT) ∧ W.cell? ⟨kb, 1, none⟩ = some (.int .u64 (kt : Int)) ∧ W.cell? ⟨kb, 2, none⟩ = some (.bool kR) ∧ W.cell? ⟨kb, 3, none⟩ = some (.int .u64 (kr : Int)) ∧ kb < W.heap.size) := Lib.hid (fun W o => by
    have hb := o.blk hbx (by simp)
    refine ⟨?_, ?_, ?_, ?_, lt_of_blk hb⟩ <;> (rw [cell_of_blk hb]; rfl))
  have H2 := Lib.hid (H1.out.only oa (by simp))
  have Hm2 := Lib.hid (oa.cell Hm1.out (by simp))
  have O2 := Lib.hid (O1.out.trans oa)
  clear H1 Hm1 O1 oa hbx
  go_region_held3 (fun W => W.cell? ⟨kb, 0, none⟩ = some (.bool kT) ∧ W.cell? ⟨kb, 1, none⟩ = some (.int .u64 (kt : Int)) ∧ W.cell? ⟨kb, 2, none⟩ = some (.bool kR) ∧ W.cell? ⟨kb, 3, none⟩ = some (.int .u64 (kr : Int)) ∧ kb < W.heap.size) ((refine Hth.out _ ?_; first | assumption | exact (Only.refl _ _).drew))
    ((first
    | (go_at_call 17; refine (state_walk p len cap _ (H2.out.only (Only.refl [] _).drew (by simp))).mono ?_; rintro e w3 ⟨s, rfl, hs, o3⟩; have o4 := Only.trans (S := []) (a := w2) (by first | assumption | exact (Only.refl _ _).drew) o3; clear o3)
    | (go_at_call 10; refine (with_walk s ⟨kT, kt, kR, kr⟩ m _ (by omega) HK.out.1 HK.out.2 ((by assumption : Only [] w2 _).cell Hm2.out (by simp))).mono ?_; rintro e w5 ⟨rfl, o5⟩; have o6 := Only.trans (S := []) (a := w2) (by assumption) o5; clear o5)))
  have hbk := fun x => @with_back s.data.toList x ⟨kT, kt, kR, kr⟩
  have hun := with_u s.data.toList ⟨kT, kt, kR, kr⟩
  have hsz := with_size s.data.toList ⟨kT, kt, kR, kr⟩
  obtain ⟨X, hX⟩ : ∃ X, withL s.data.toList ⟨kT, kt, kR, kr⟩ = X := ⟨_, rfl⟩
  rw [hX] at hun hsz hbk ⊢
  obtain ⟨l, ec⟩ := X
  simp only at hun hsz hbk ⊢
  have O5 := Lib.hid (O2.out.trans o6)
  have H5 := Hth.out _ o6
  have Hm5 := Lib.hid (o6.cell Hm2.out (by simp))
  have O6 := Lib.hid o6
  clear hX o4 o6 H2 Hm2 O2
  by_cases he : ec = 0
  · subst he
    have hb := Lib.hid (hbk l rfl)
    obtain ⟨L, hL⟩ : ∃ L : ByteArray, L = ⟨l.toArray⟩ := ⟨_, rfl⟩
    have hLl : L.data.toList = l := by rw [hL]
    have hLs : L.size ≤ 100000 := by rw [← len_data, hLl]; omega
    rw [← hL]
    rw [← hLl] at hb
    have CR := Lib.hid (read_walk L m w5 hLs Hm5.out)
    clear hbk hun hsz hL
    go_wp2_with fail
    refine CR.out.mono ?_
    rintro e w7 ⟨rfl, o7⟩
    rw [hb.out.1]
    simp only [mkArr]
    have O7 := Lib.hid (O5.out.trans o7)
    have O7' := Lib.hid (O6.out.trans o7)
    have Hm7 := Lib.hid (o7.cell Hm5.out (by simp))
    clear o7 O5 O6 Hm5 CR H5
    have H7 := Hth.out _ O7'.out
    go_wp2_with fail
    have oa : Only [] w7 (w7.alloc (boxM ⟨kT, kt, kR, kr⟩)) := (Only.refl _ _).alloc _
    have hbx : (w7.alloc (boxM ⟨kT, kt, kR, kr⟩)).heap[w7.heap.size]? = some (.cells #[.bool kT, .int .u64 (kt : Int), .bool kR, .int .u64 (kr : Int)] 29 (0, 0)) := heap_alloc_new w7 (boxM ⟨kT, kt, kR, kr⟩)
    unfold boxM at oa hbx
    simp only at oa hbx
    generalize w7.alloc (.cells #[.bool kT, .int .u64 (kt : Int), .bool kR, .int .u64 (kr : Int)] 29) = w8 at *
    generalize w7.heap.size = kb2 at *
    have O8 := Lib.hid (O7.out.trans oa)
    have O8' := Lib.hid (O7'.out.trans oa)
    have Hm8 := Lib.hid (oa.cell Hm7.out (by simp))
    have HB := Lib.hid hbx
    clear oa hbx O7 O7' Hm7 H7
    refine (with_walk L ⟨kT, kt, kR, kr⟩ m w8 hLs HK.out.1 HK.out.2 Hm8.out).mono ?_
    rintro e w9 ⟨rfl, o9⟩
    rw [hb.out.2]
    simp only
    have hLL : (⟨L.data.toList.toArray⟩ : ByteArray) = L := data_inj rfl
    rw [hLL]
    have O9 := Lib.hid (O8.out.trans o9)
    have O9' := Lib.hid (O8'.out.trans o9)
    have HB9 := Lib.hid (o9.blk HB.out (by simp))
    have CK := Lib.hid (known04 m w9 (o9.cell Hm8.out (by simp)))
    clear o9 O8 O8' Hm8 HB hLL
    go_wp2_with fail
    refine CK.out.mono ?_
    rintro e w10 ⟨rfl, o10⟩
    have H10 := Hth.out _ (O9'.out.trans o10)
    have hb10 := o10.blk HB9.out (by simp)
    have O10 := Lib.hid (O9.out.trans o10)
    have c0 : w10.cell? ⟨kb2, 0, none⟩ = some (.bool kT) := by rw [cell_of_blk hb10]; rfl
    have c1 : w10.cell? ⟨kb2, 1, none⟩ = some (.int .u64 (kt : Int)) := by rw [cell_of_blk hb10]; rfl
    have c2 : w10.cell? ⟨kb2, 2, none⟩ = some (.bool kR) := by rw [cell_of_blk hb10]; rfl
    have c3 : w10.cell? ⟨kb2, 3, none⟩ = some (.int .u64 (kr : Int)) := by rw [cell_of_blk hb10]; rfl
    have lt := lt_of_blk hb10
    obtain ⟨d0, d1, d2, d3, lt2⟩ := H10
    clear o10 hb10 HB9 O9 O9' CK
    go_wp2_with fail
    go_ret
    exact ⟨rfl, O10.out⟩
  · have hl := hun he
    subst hl
    have he1 : ((ec : Int) != 0) = true := by rw [bne_iff_ne]; omega
    have he2 : ((ec : Int) == 0) = false := by rw [beq_eq_false_iff_ne]; omega
    clear hbk hun hsz he
    have CK := Lib.hid (known04 m w5 Hm5.out)
    go_wp2_with fail
    refine CK.out.mono ?_
    rintro e w6 ⟨rfl, o6⟩
    have O8 := Lib.hid (O5.out.trans o6)
    clear o6
    go_wp2_with fail
    go_ret
    exact ⟨rfl, O8.out⟩

theorem parse_back (h l s f : Nat) (hh : h < big) (hl : l < big) (hs : s < big) (hf : f < 256) :
    parseL (printL ⟨h, l ||| 1, s ||| 1, f⟩).1 = (⟨h, l ||| 1, s ||| 1, f⟩, 0) ∧ (printL ⟨h, l ||| 1, s ||| 1, f⟩).2 = 0 ∧ (printL ⟨h, l ||| 1, s ||| 1, f⟩).1.length = 55 := by
  have e1 : ∀ n : Nat, n < big → n ||| 1 < 16 ^ 16 := fun n hn => by
    have : (16 : Nat) ^ 16 = 2 ^ 64 := by decide
    rw [this]
    exact Nat.or_lt_two_pow (by unfold big at hn; omega) (by decide)
  have e2 : ∀ n : Nat, n ||| 1 ≠ 0 := fun n e => by have := (or_eq_zero.1 e).2; omega
  exact parse_print ⟨by unfold big at hh; exact Nat.lt_of_lt_of_le hh (by decide), e1 l hl, e1 s hs, hf⟩ (by
    rintro (h | h)
    · exact e2 _ h.2
    · exact e2 _ h)
theorem print_len (p : Pa) : (printL p).1.length ≤ 55 := by
  unfold printL
  split
  · simp
  · simp only [List.length_append, hexedL_length, List.length_cons, List.length_nil]; omega

set_option maxRecDepth 100000 in
set_option maxHeartbeats 2000000 in
theorem twice_walk (p : Pa) (h l s f : Nat) (m : Int) (w : World) (hp : p.hi < big ∧ p.lo < big ∧ p.span < big ∧ p.flags < 256) (hh : h < big) (hl : l < big) (hs : s < big) (hf : f < 256) (hm : w.cell? ⟨0, 0, none⟩ = some (.int .i64 m)) :
    Calls Tryd.prog 8 #[.agg (paArr p), .int .u64 h, .int .u64 l, .int .u64 s, .int .u8 f] w fun e w' => e = .returned (.bool true) ∧ Only [] w w' := by
  have g1 := guard_parent
  have e1 := eql_parent
  have o1 : bits BinOp.or IntKind.u64 (l : Int) 1 = ((l ||| 1 : Nat) : Int) := or_nat hl (show 1 < big by decide)
  have o2 : bits BinOp.or IntKind.u64 (s : Int) 1 = ((s ||| 1 : Nat) : Int) := or_nat hs (show 1 < big by decide)
  have HPB := Lib.hid (parse_back h l s f hh hl hs hf)
  have HPP := Lib.hid (print_len p)
  have HP := Lib.hid hp
  have b1 : l ||| 1 < big := by unfold big at *; exact Nat.or_lt_two_pow (n := 64) hl (by decide)
  have b2 : s ||| 1 < big := by unfold big at *; exact Nat.or_lt_two_pow (n := 64) hs (by decide)
  have HB := Lib.hid (And.intro hh (And.intro b1 (And.intro b2 hf)))
  have Hm := Lib.hid hm
  clear hp hm b1 b2
  obtain ⟨ph, pl, ps, pf⟩ := p
  simp only [paArr]
  generalize l ||| 1 = l1 at *
  generalize s ||| 1 = s1 at *
  have oa : Only [] w ((w.alloc (.cells #[.int .u64 (ph : Int), .int .u64 (pl : Int), .int .u64 (ps : Int), .int .u8 (pf : Int)] 33)).alloc (.cells #[.int .u64 (h : Int), .int .u64 (l1 : Int), .int .u64 (s1 : Int), .int .u8 (f : Int)] 33)) := ((Only.refl _ _).alloc _).alloc _
  have hb1 : ((w.alloc (.cells #[.int .u64 (ph : Int), .int .u64 (pl : Int), .int .u64 (ps : Int), .int .u8 (pf : Int)] 33)).alloc (.cells #[.int .u64 (h : Int), .int .u64 (l1 : Int), .int .u64 (s1 : Int), .int .u8 (f : Int)] 33)).heap[w.heap.size]? = _ := ((Only.refl [] _).alloc _).blk (heap_alloc_new _ _) (by simp)
  have hb2 := heap_alloc_new (w.alloc (.cells #[.int .u64 (ph : Int), .int .u64 (pl : Int), .int .u64 (ps : Int), .int .u8 (pf : Int)] 33)) (.cells #[.int .u64 (h : Int), .int .u64 (l1 : Int), .int .u64 (s1 : Int), .int .u8 (f : Int)] 33)
  rw [World.size_alloc] at hb2
  have OA := Lib.hid oa
  have HB1 := Lib.hid hb1
  have HB2 := Lib.hid hb2
  clear oa hb1 hb2
  go_enter Tryd.func8, Tryd.ntmps8
  go_wp2_with fail
  generalize (w.alloc (.cells #[.int .u64 (ph : Int), .int .u64 (pl : Int), .int .u64 (ps : Int), .int .u8 (pf : Int)] 33)).alloc (.cells #[.int .u64 (h : Int), .int .u64 (l1 : Int), .int .u64 (s1 : Int), .int .u8 (f : Int)] 33) = w1 at *
  generalize w.heap.size = k1 at *
  generalize k1 + 1 = k2 at *
  have Hm1 := Lib.hid (OA.out.cell Hm.out (by simp))
  have C1 := Lib.hid (print_walk ⟨h, l1, s1, f⟩ w1 HB.out)
  simp only [paArr] at C1
  clear Hm
  refine C1.out.mono ?_
  rintro e w2 ⟨rfl, o2⟩
  obtain ⟨L, hL⟩ : ∃ L : ByteArray, L = ⟨(printL ⟨h, l1, s1, f⟩).1.toArray⟩ := ⟨_, rfl⟩
  have hLd : L.data.toList = (printL ⟨h, l1, s1, f⟩).1 := by rw [hL]
  have hLs : L.size = 55 := by rw [← len_data, hLd]; exact HPB.out.2.2
  rw [← hL, HPB.out.2.1]
  have HLd := Lib.hid hLd
  have O2 := Lib.hid (OA.out.trans o2)
  have HB12 := Lib.hid (o2.blk HB1.out (by simp))
  have HB22 := Lib.hid (o2.blk HB2.out (by simp))
  have CP := Lib.hid (parse_walk L m w2 (by omega) (o2.cell Hm1.out (by simp)))
  have Hm2 := Lib.hid (o2.cell Hm1.out (by simp))
  clear hL hLd o2 HB1 HB2 OA Hm1 C1
  go_wp2_with fail
  refine CP.out.mono ?_
  rintro e w3 ⟨rfl, o3⟩
  rw [HLd.out, HPB.out.1]
  simp only [paArr]
  have O3 := Lib.hid (O2.out.trans o3)
  have HB13 := Lib.hid (o3.blk HB12.out (by simp))
  have HB23 := Lib.hid (o3.blk HB22.out (by simp))
  have Hm3 := Lib.hid (o3.cell Hm2.out (by simp))
  clear o3 O2 HB12 HB22 CP Hm2
  go_wp2_with fail
  have oa : Only [] w3 (w3.alloc (.cells #[.int .u64 (h : Int), .int .u64 (l1 : Int), .int .u64 (s1 : Int), .int .u8 (f : Int)] 33)) := (Only.refl _ _).alloc _
  have hb3 := heap_alloc_new w3 (.cells #[.int .u64 (h : Int), .int .u64 (l1 : Int), .int .u64 (s1 : Int), .int .u8 (f : Int)] 33)
  generalize w3.alloc (.cells #[.int .u64 (h : Int), .int .u64 (l1 : Int), .int .u64 (s1 : Int), .int .u8 (f : Int)] 33) = w4 at *
  generalize w3.heap.size = k3 at *
  have O4 := Lib.hid (O3.out.trans oa)
  have CK := Lib.hid (known04 m w4 (oa.cell Hm3.out (by simp)))
  have HB14 := Lib.hid (oa.blk HB13.out (by simp))
  have HB24 := Lib.hid (oa.blk HB23.out (by simp))
  have HB34 := Lib.hid hb3
  clear oa hb3 O3 Hm3 HB13 HB23
  refine CK.out.mono ?_
  rintro e w5 ⟨rfl, o5⟩
  have O5 := Lib.hid (O4.out.trans o5)
  have q1 := o5.blk HB14.out (by simp)
  have q2 := o5.blk HB24.out (by simp)
  have q3 := o5.blk HB34.out (by simp)
  have a0 : w5.cell? ⟨k1, 0, none⟩ = some (.int .u64 (ph : Int)) := by rw [cell_of_blk q1]; rfl
  have a1 : w5.cell? ⟨k1, 1, none⟩ = some (.int .u64 (pl : Int)) := by rw [cell_of_blk q1]; rfl
  have a2 : w5.cell? ⟨k1, 2, none⟩ = some (.int .u64 (ps : Int)) := by rw [cell_of_blk q1]; rfl
  have a3 : w5.cell? ⟨k1, 3, none⟩ = some (.int .u8 (pf : Int)) := by rw [cell_of_blk q1]; rfl
  have b0 : w5.cell? ⟨k2, 0, none⟩ = some (.int .u64 (h : Int)) := by rw [cell_of_blk q2]; rfl
  have b1 : w5.cell? ⟨k2, 1, none⟩ = some (.int .u64 (l1 : Int)) := by rw [cell_of_blk q2]; rfl
  have b2 : w5.cell? ⟨k2, 2, none⟩ = some (.int .u64 (s1 : Int)) := by rw [cell_of_blk q2]; rfl
  have b3 : w5.cell? ⟨k2, 3, none⟩ = some (.int .u8 (f : Int)) := by rw [cell_of_blk q2]; rfl
  have c0 : w5.cell? ⟨k3, 0, none⟩ = some (.int .u64 (h : Int)) := by rw [cell_of_blk q3]; rfl
  have c1 : w5.cell? ⟨k3, 1, none⟩ = some (.int .u64 (l1 : Int)) := by rw [cell_of_blk q3]; rfl
  have c2 : w5.cell? ⟨k3, 2, none⟩ = some (.int .u64 (s1 : Int)) := by rw [cell_of_blk q3]; rfl
  have c3 : w5.cell? ⟨k3, 3, none⟩ = some (.int .u8 (f : Int)) := by rw [cell_of_blk q3]; rfl
  have y1 := lt_of_blk q1
  have y2 := lt_of_blk q2
  have y3 := lt_of_blk q3
  have C0 := Lib.hid (p0_walk ⟨ph, pl, ps, pf⟩ w5 HP.out)
  simp only [paArr] at C0
  clear q1 q2 q3 o5 HB14 HB24 HB34 O4 CK
  have hL2 : ((L.size : Int) == 55) = true := by rw [beq_iff_eq]; omega
  have HLs := Lib.hid hLs
  clear hLs
  go_wp2_with fail
  refine C0.out.mono ?_
  rintro e w6 ⟨rfl, o6⟩
  obtain ⟨R, hR⟩ : ∃ R : ByteArray, R = ⟨(printL ⟨ph, pl, ps, pf⟩).1.toArray⟩ := ⟨_, rfl⟩
  have hRs : R.size ≤ 55 := by rw [← len_data, hR]; exact HPP.out
  rw [← hR]
  have O6 := Lib.hid (O5.out.trans o6)
  have d1 : decide ((R.size : Int) ≤ 55) = true := decide_eq_true (by omega)
  clear hR o6
  go_wp2_with fail
  go_ret
  exact ⟨rfl, O6.out⟩

end Go.Proofs.YtfnbkcdcdeojfaaDoor
