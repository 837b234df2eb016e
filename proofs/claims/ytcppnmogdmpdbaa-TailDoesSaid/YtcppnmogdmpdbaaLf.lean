/- SameSpan on alike spans, groups on alike rows, walked. -/
import Derived.Test.YtcppnmogdmpdbaaLe
import Derived.Deep.RegionHeld3
set_option linter.unusedVariables false
set_option linter.unusedSimpArgs false
namespace Go.Proofs.Ytcppnmogdmpdbaa
open Go.RowKit Go.Mk Go.Hp
attribute [-go_sem] Builtin.append_

set_option maxRecDepth 100000 in
set_option maxHeartbeats 4000000 in
theorem samespan_walk (s : Sp) (w : World) :
    Calls Try.prog 63 #[.agg #[.int .u64 s.tr.1, .int .u64 s.tr.2, .int .u64 s.id, .int .u64 s.par, .string s.nm, .int .i64 s.st, .int .i64 s.en, .bool s.bad, .slice none 0 0, .int .u64 s.rv], .agg #[.int .u64 s.tr.1, .int .u64 s.tr.2, .int .u64 s.id, .int .u64 s.par, .string s.nm, .int .i64 s.st, .int .i64 s.en, .bool s.bad, .slice none 0 0, .int .u64 s.rv]] w fun e w' => e = .returned (.bool true) ∧ Only [] w w' := by
  obtain ⟨⟨t1, t2⟩, id, par, nm, st, en, bad, rv⟩ := s
  simp only
  obtain ⟨w1, hww⟩ : ∃ w1, w1 = ((w.alloc (.cells #[.int .u64 t1, .int .u64 t2, .int .u64 id, .int .u64 par, .string nm, .int .i64 st, .int .i64 en, .bool bad, .slice none 0 0, .int .u64 rv] 65)).alloc (.cells #[.int .u64 t1, .int .u64 t2, .int .u64 id, .int .u64 par, .string nm, .int .i64 st, .int .i64 en, .bool bad, .slice none 0 0, .int .u64 rv] 65)) := ⟨_, rfl⟩
  have o1 : Only [] w w1 := by rw [hww]; exact ((Only.refl _ _).alloc _).alloc _
  obtain ⟨b, hb⟩ : ∃ b, b = w.heap.size := ⟨_, rfl⟩
  obtain ⟨b1, hb1⟩ : ∃ b1, b1 = b + 1 := ⟨_, rfl⟩
  have k0 : w1.heap[b]? = some (.cells #[.int .u64 t1, .int .u64 t2, .int .u64 id, .int .u64 par, .string nm, .int .i64 st, .int .i64 en, .bool bad, .slice none 0 0, .int .u64 rv] 65 (0, 0)) := by
    rw [hww, hb]; exact ((Only.refl [] _).alloc _).blk (heap_alloc_new w _) (by simp)
  have k1 : w1.heap[b1]? = some (.cells #[.int .u64 t1, .int .u64 t2, .int .u64 id, .int .u64 par, .string nm, .int .i64 st, .int .i64 en, .bool bad, .slice none 0 0, .int .u64 rv] 65 (0, 0)) := by
    rw [hww, hb1, hb]
    have h1 := heap_alloc_new (w.alloc (.cells #[.int .u64 t1, .int .u64 t2, .int .u64 id, .int .u64 par, .string nm, .int .i64 st, .int .i64 en, .bool bad, .slice none 0 0, .int .u64 rv] 65)) (.cells #[.int .u64 t1, .int .u64 t2, .int .u64 id, .int .u64 par, .string nm, .int .i64 st, .int .i64 en, .bool bad, .slice none 0 0, .int .u64 rv] 65)
    rw [show (w.alloc (.cells #[.int .u64 t1, .int .u64 t2, .int .u64 id, .int .u64 par, .string nm, .int .i64 st, .int .i64 en, .bool bad, .slice none 0 0, .int .u64 rv] 65)).heap.size = w.heap.size + 1 by simp] at h1
    exact h1
  go_enter Try.func63, Try.ntmps63
  go_wp2_with fail
  rw [← hww, ← hb, ← hb1]
  have l0 : b < w1.heap.size := lt_of_blk k0
  have l1 : b1 < w1.heap.size := lt_of_blk k1
  have a0 : w1.cell? ⟨b, 0, none⟩ = some (.int .u64 t1) := blk_cells k0 0 _ rfl
  have a1 : w1.cell? ⟨b, 1, none⟩ = some (.int .u64 t2) := blk_cells k0 1 _ rfl
  have a2 : w1.cell? ⟨b, 2, none⟩ = some (.int .u64 id) := blk_cells k0 2 _ rfl
  have a3 : w1.cell? ⟨b, 3, none⟩ = some (.int .u64 par) := blk_cells k0 3 _ rfl
  have a4 : w1.cell? ⟨b, 4, none⟩ = some (.string nm) := blk_cells k0 4 _ rfl
  have a5 : w1.cell? ⟨b, 5, none⟩ = some (.int .i64 st) := blk_cells k0 5 _ rfl
  have a6 : w1.cell? ⟨b, 6, none⟩ = some (.int .i64 en) := blk_cells k0 6 _ rfl
  have a7 : w1.cell? ⟨b, 7, none⟩ = some (.bool bad) := blk_cells k0 7 _ rfl
  have a8 : w1.cell? ⟨b, 8, none⟩ = some (.slice none 0 0) := blk_cells k0 8 _ rfl
  have a9 : w1.cell? ⟨b, 9, none⟩ = some (.int .u64 rv) := blk_cells k0 9 _ rfl
  have c0 : w1.cell? ⟨b1, 0, none⟩ = some (.int .u64 t1) := blk_cells k1 0 _ rfl
  have c1 : w1.cell? ⟨b1, 1, none⟩ = some (.int .u64 t2) := blk_cells k1 1 _ rfl
  have c2 : w1.cell? ⟨b1, 2, none⟩ = some (.int .u64 id) := blk_cells k1 2 _ rfl
  have c3 : w1.cell? ⟨b1, 3, none⟩ = some (.int .u64 par) := blk_cells k1 3 _ rfl
  have c4 : w1.cell? ⟨b1, 4, none⟩ = some (.string nm) := blk_cells k1 4 _ rfl
  have c5 : w1.cell? ⟨b1, 5, none⟩ = some (.int .i64 st) := blk_cells k1 5 _ rfl
  have c6 : w1.cell? ⟨b1, 6, none⟩ = some (.int .i64 en) := blk_cells k1 6 _ rfl
  have c7 : w1.cell? ⟨b1, 7, none⟩ = some (.bool bad) := blk_cells k1 7 _ rfl
  have c8 : w1.cell? ⟨b1, 8, none⟩ = some (.slice none 0 0) := blk_cells k1 8 _ rfl
  have c9 : w1.cell? ⟨b1, 9, none⟩ = some (.int .u64 rv) := blk_cells k1 9 _ rfl
  clear k0 k1 hww hb hb1
  have e1 : (nm.toList == nm.toList) = true := by simp
  have HO := Lib.hid o1
  clear o1
  go_loopw [5] (fun iv wr => iv = .int .i64 0 ∧ wr = w1) (fun _ _ => 0)
  case atStart => exact ⟨rfl, rfl⟩
  case round =>
    obtain ⟨rfl, rfl⟩ := hrel
    go_wp2_with fail
    go_ret
    exact ⟨rfl, HO.out⟩

set_option maxRecDepth 100000 in
set_option maxHeartbeats 4000000 in
/-- What groups compares: two rows of groups that say the same. -/
theorem groups_walk {w : World} {X Y : List (Ab × Value)} {p q : Option Addr} {n c1 c2 : Nat} (hx : SliceIs w 71 3 (X.map encG) (.slice p n c1)) (hy : SliceIs w 71 3 (Y.map encG) (.slice q n c2)) (hn : X.length = n) (hXY : X.map (·.1) = Y.map (·.1))
    (sx : ∀ p ∈ X, SliceIs w 65 10 (p.1.sps.map Sp.cells) p.2) (sy : ∀ p ∈ Y, SliceIs w 65 10 (p.1.sps.map Sp.cells) p.2) (hl : n ≤ 5000) (hs : ∀ p ∈ X, p.1.sps.length ≤ 5000) :
    Calls Try.prog 57 #[.slice p n c1, .slice q n c2] w fun e w' => e = .returned (.bool true) ∧ Only [] w w' := by
  have H := Lib.hid (And.intro hx (And.intro hy (And.intro sx sy)))
  have HL := Lib.hid hs
  have HN := Lib.hid (And.intro hn hXY)
  have hnI : (n : Int) ≤ 5000 := by omega
  clear hx hy sx sy hs hn hXY hl
  go_enter Try.func57, Try.ntmps57
  have g0 : ((n : Int) != (n : Int)) = false := by simp
  go_wp2_with fail
  go_loopw [5] (fun iv wr => ∃ i : Nat, iv = .int .i64 i ∧ i ≤ n ∧ Only [] w wr) (fun iv _ => n - (intOf iv).toNat)
  case atStart => exact ⟨0, rfl, Nat.zero_le _, Only.refl _ _⟩
  case round =>
    obtain ⟨i, rfl, hi, ow⟩ := hrel
    by_cases hil : i < n
    · have g1 : decide (i < n) = true := decide_eq_true hil
      have hX := H.out.1.only ow (by simp)
      have hY := H.out.2.1.only ow (by simp)
      obtain ⟨⟨a, xv⟩, hxi⟩ : ∃ x, X[i]? = some x := ⟨_, List.getElem?_eq_getElem (by rw [HN.out.1]; exact hil)⟩
      obtain ⟨⟨a', yv⟩, hyi⟩ : ∃ y, Y[i]? = some y := ⟨_, List.getElem?_eq_getElem (by
        have h1 := congrArg List.length HN.out.2
        rw [List.length_map, List.length_map, HN.out.1] at h1
        rw [← h1]; exact hil)⟩
      have haa : a = a' := by
        have h1 : (X.map (·.1))[i]? = (Y.map (·.1))[i]? := by rw [HN.out.2]
        rw [List.getElem?_map, List.getElem?_map, hxi, hyi] at h1
        simpa using h1
      subst haa
      obtain ⟨gx, ox, hgx, hgxl, hcx⟩ := row_cells (j := i) hX (by rw [List.getElem?_map, hxi]; rfl)
      obtain ⟨gy, oy, hgy, hgyl, hcy⟩ := row_cells (j := i) hY (by rw [List.getElem?_map, hyi]; rfl)
      have hsx := (H.out.2.2.1 _ (List.mem_of_getElem? hxi)).only ow (by simp)
      have hsy := (H.out.2.2.2 _ (List.mem_of_getElem? hyi)).only ow (by simp)
      have hml := HL.out _ (List.mem_of_getElem? hxi)
      obtain ⟨ps, d1, hxv⟩ := hsx.form
      obtain ⟨pt, d2, hyv⟩ := hsy.form
      obtain ⟨m, hm⟩ : ∃ m, a.sps.length = m := ⟨_, rfl⟩
      simp only [List.length_map, hm] at hxv hyv hml
      subst hxv hyv
      have x0 := hcx 0 _ rfl
      have x1 := hcx 1 _ rfl
      have x2 := hcx 2 _ rfl
      have y0 := hcy 0 _ rfl
      have y1 := hcy 1 _ rfl
      have y2 := hcy 2 _ rfl
      simp only [Nat.add_zero] at x0 y0
      have t1 : (a.tr.1 != a.tr.1) = false := by simp
      have t2 : (a.tr.2 != a.tr.2) = false := by simp
      have t3 : ((m : Int) != (m : Int)) = false := by simp
      have hmI : (m : Int) ≤ 5000 := by omega
      subst hgx hgy
      have HS := Lib.hid (And.intro hsx (And.intro hsy hm))
      have Hg := Lib.hid (And.intro x2 y2)
      clear hX hY hxi hyi hcx hcy hsx hsy hm hml
      go_wp2_with fail
      go_quiet (fail)
      go_wp2_with fail
      obtain ⟨w0, hw0⟩ : ∃ w0, w0 = wr.drewN nq := ⟨_, rfl⟩
      rw [← hw0]
      have o0 : Only [] wr w0 := by rw [hw0]; exact (Only.refl _ _).drewN _
      have ow0 := Lib.hid (ow.trans o0)
      have HO0 := Lib.hid o0
      have X2 : w0.cell? ⟨gx, ox + i * 3 + 2, none⟩ = some (.slice ps m d1) := o0.cell x2 (by simp)
      have hgx0 : gx < w0.heap.size := o0.lt hgxl
      have Hgl := Lib.hid (And.intro hgxl hgyl)
      clear ow o0 hw0 x0 x1 x2 y0 y1 y2 hgxl hgyl
      go_loopw [6] (fun kv wz => ∃ k : Nat, kv = .int .i64 k ∧ k ≤ m ∧ Only [] w0 wz) (fun kv _ => m - (intOf kv).toNat)
      case atStart => exact ⟨0, rfl, Nat.zero_le _, Only.refl _ _⟩
      case round =>
        obtain ⟨k, rfl, hk, oz⟩ := hrel
        have X3 : wr.cell? ⟨gx, ox + i * 3 + 2, none⟩ = some (.slice ps m d1) := oz.cell X2 (by simp)
        have hgx1 : gx < wr.heap.size := oz.lt hgx0
        by_cases hkl : k < m
        · have g2 : decide (k < m) = true := decide_eq_true hkl
          have Hoz := Lib.hid oz
          obtain ⟨s, hsk⟩ : ∃ s, a.sps[k]? = some s := ⟨_, List.getElem?_eq_getElem (by rw [HS.out.2.2]; exact hkl)⟩
          have hks : (a.sps.map Sp.cells)[k]? = some s.cells := by rw [List.getElem?_map, hsk]; rfl
          obtain ⟨gs, os, hgs, hgsl, _⟩ := row_cells (j := k) HS.out.1 hks
          obtain ⟨gt, ot, hgt, hgtl, _⟩ := row_cells (j := k) HS.out.2.1 hks
          subst hgs hgt
          have HW := Lib.hid (show ∀ W, Only [] wr W → _ from fun W ho => by
            have oo := HO0.out.trans (oz.trans ho)
            have hg2 := oo.cell Hg.out.1 (by simp)
            have hg4 := oo.cell Hg.out.2 (by simp)
            obtain ⟨_, _, he1, _, hs1⟩ := row_cells (j := k) (HS.out.1.only oo (by simp)) hks
            obtain ⟨_, _, he2, _, hs2⟩ := row_cells (j := k) (HS.out.2.1.only oo (by simp)) hks
            cases he1
            cases he2
            exact (show W.cell? ⟨gx, ox + i * 3 + 2, none⟩ = some (.slice (some ⟨gs, os, none⟩) m d1) ∧ W.cell? ⟨gy, oy + i * 3 + 2, none⟩ = some (.slice (some ⟨gt, ot, none⟩) m d2) ∧ W.cell? ⟨gs, os + k * 10, none⟩ = some (.int .u64 s.tr.1) ∧ W.cell? ⟨gs, os + k * 10 + 1, none⟩ = some (.int .u64 s.tr.2) ∧ W.cell? ⟨gs, os + k * 10 + 2, none⟩ = some (.int .u64 s.id) ∧ W.cell? ⟨gs, os + k * 10 + 3, none⟩ = some (.int .u64 s.par) ∧ W.cell? ⟨gs, os + k * 10 + 4, none⟩ = some (.string s.nm) ∧ W.cell? ⟨gs, os + k * 10 + 5, none⟩ = some (.int .i64 s.st) ∧ W.cell? ⟨gs, os + k * 10 + 6, none⟩ = some (.int .i64 s.en) ∧ W.cell? ⟨gs, os + k * 10 + 7, none⟩ = some (.bool s.bad) ∧ W.cell? ⟨gs, os + k * 10 + 8, none⟩ = some (.slice none 0 0) ∧ W.cell? ⟨gs, os + k * 10 + 9, none⟩ = some (.int .u64 s.rv) ∧ W.cell? ⟨gt, ot + k * 10, none⟩ = some (.int .u64 s.tr.1) ∧ W.cell? ⟨gt, ot + k * 10 + 1, none⟩ = some (.int .u64 s.tr.2) ∧ W.cell? ⟨gt, ot + k * 10 + 2, none⟩ = some (.int .u64 s.id) ∧ W.cell? ⟨gt, ot + k * 10 + 3, none⟩ = some (.int .u64 s.par) ∧ W.cell? ⟨gt, ot + k * 10 + 4, none⟩ = some (.string s.nm) ∧ W.cell? ⟨gt, ot + k * 10 + 5, none⟩ = some (.int .i64 s.st) ∧ W.cell? ⟨gt, ot + k * 10 + 6, none⟩ = some (.int .i64 s.en) ∧ W.cell? ⟨gt, ot + k * 10 + 7, none⟩ = some (.bool s.bad) ∧ W.cell? ⟨gt, ot + k * 10 + 8, none⟩ = some (.slice none 0 0) ∧ W.cell? ⟨gt, ot + k * 10 + 9, none⟩ = some (.int .u64 s.rv) from ⟨hg2, hg4, hs1 0 _ rfl, hs1 1 _ rfl, hs1 2 _ rfl, hs1 3 _ rfl, hs1 4 _ rfl, hs1 5 _ rfl, hs1 6 _ rfl, hs1 7 _ rfl, hs1 8 _ rfl, hs1 9 _ rfl, hs2 0 _ rfl, hs2 1 _ rfl, hs2 2 _ rfl, hs2 3 _ rfl, hs2 4 _ rfl, hs2 5 _ rfl, hs2 6 _ rfl, hs2 7 _ rfl, hs2 8 _ rfl, hs2 9 _ rfl⟩))
          have m1 : gy < wr.heap.size := oz.lt (HO0.out.lt Hgl.out.2)
          have m2 : gs < wr.heap.size := oz.lt (HO0.out.lt hgsl)
          have m3 : gt < wr.heap.size := oz.lt (HO0.out.lt hgtl)
          clear oz hsk hks hgsl hgtl
          go_wp2_with fail
          go_region_held3 (fun W => W.cell? ⟨gx, ox + i * 3 + 2, none⟩ = some (.slice (some ⟨gs, os, none⟩) m d1) ∧ W.cell? ⟨gy, oy + i * 3 + 2, none⟩ = some (.slice (some ⟨gt, ot, none⟩) m d2) ∧ W.cell? ⟨gs, os + k * 10, none⟩ = some (.int .u64 s.tr.1) ∧ W.cell? ⟨gs, os + k * 10 + 1, none⟩ = some (.int .u64 s.tr.2) ∧ W.cell? ⟨gs, os + k * 10 + 2, none⟩ = some (.int .u64 s.id) ∧ W.cell? ⟨gs, os + k * 10 + 3, none⟩ = some (.int .u64 s.par) ∧ W.cell? ⟨gs, os + k * 10 + 4, none⟩ = some (.string s.nm) ∧ W.cell? ⟨gs, os + k * 10 + 5, none⟩ = some (.int .i64 s.st) ∧ W.cell? ⟨gs, os + k * 10 + 6, none⟩ = some (.int .i64 s.en) ∧ W.cell? ⟨gs, os + k * 10 + 7, none⟩ = some (.bool s.bad) ∧ W.cell? ⟨gs, os + k * 10 + 8, none⟩ = some (.slice none 0 0) ∧ W.cell? ⟨gs, os + k * 10 + 9, none⟩ = some (.int .u64 s.rv) ∧ W.cell? ⟨gt, ot + k * 10, none⟩ = some (.int .u64 s.tr.1) ∧ W.cell? ⟨gt, ot + k * 10 + 1, none⟩ = some (.int .u64 s.tr.2) ∧ W.cell? ⟨gt, ot + k * 10 + 2, none⟩ = some (.int .u64 s.id) ∧ W.cell? ⟨gt, ot + k * 10 + 3, none⟩ = some (.int .u64 s.par) ∧ W.cell? ⟨gt, ot + k * 10 + 4, none⟩ = some (.string s.nm) ∧ W.cell? ⟨gt, ot + k * 10 + 5, none⟩ = some (.int .i64 s.st) ∧ W.cell? ⟨gt, ot + k * 10 + 6, none⟩ = some (.int .i64 s.en) ∧ W.cell? ⟨gt, ot + k * 10 + 7, none⟩ = some (.bool s.bad) ∧ W.cell? ⟨gt, ot + k * 10 + 8, none⟩ = some (.slice none 0 0) ∧ W.cell? ⟨gt, ot + k * 10 + 9, none⟩ = some (.int .u64 s.rv)) ((refine HW.out _ ?_; first | assumption | exact Only.refl _ _ | exact (Only.refl _ _).drew))
            ((go_at_call 63; refine (samespan_walk s _).mono ?_; rintro e w5 ⟨rfl, o5⟩; have o6 := Only.trans (S := []) (a := wr) (by first | exact Only.refl _ _ | assumption | exact (Only.refl _ _).drew) o5; clear o5))
          have o65 : Only [] wr w5 := by assumption
          go_wp2_with fail
          go_roundw
          case rel => exact ⟨k + 1, by go_num, by omega, Hoz.out.trans o65⟩
          case measure => simp [intOf]; omega
        · have g2 : decide (k < m) = false := decide_eq_false hkl
          have oz2 := Lib.hid (ow0.out.trans oz)
          clear oz
          go_wp2_with fail
          go_roundw
          case rel => exact ⟨i + 1, by go_num, by omega, oz2.out⟩
          case measure => simp [intOf]; omega
    · have g1 : decide (i < n) = false := decide_eq_false hil
      have Ow := Lib.hid ow
      clear ow
      go_wp2_with fail
      go_ret
      exact ⟨rfl, Ow.out⟩
end Go.Proofs.Ytcppnmogdmpdbaa
