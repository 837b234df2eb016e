/- Package prio, walked: counts. -/
import Derived.Test.YtbboklmmnnedjaaPo
import Derived.Deep.RegionHeld3
set_option linter.unusedVariables false
set_option linter.unusedSimpArgs false
namespace Go.Proofs.Ytbboklmmnnedjaa
open Go.RowKit Go.Mk Go.Pr

/-- For how much an offer counts, by the greatest of the others: the number, and what it is to be divided by. -/
def countN (draws : Nat) (o bar : Of) : Nat × Nat :=
  if allN draws bar.w ≤ nextN o.w bar.d then (o.w, 1)
  else if bar.d + 1 = big then (bar.w, 1)
  else (overN (allN draws bar.w / big) (allN draws bar.w % big) (Nat.gcd (bar.d + 1) (allN draws bar.w % (bar.d + 1))), (bar.d + 1) / Nat.gcd (bar.d + 1) (allN draws bar.w % (bar.d + 1)))

set_option maxRecDepth 100000 in
set_option maxHeartbeats 1000000 in
theorem counts_walk {w : World} (hp draws : Nat) (o bar : Of) (hc : w.cell? ⟨hp, 2, none⟩ = some (.int .u64 draws)) (ho : OfOk o) (hb : OfOk bar) (hd : draws < big) :
    Calls Try.prog 22 #[.pointer (some ⟨hp, 0, none⟩), ofV o, ofV bar] w fun e w' => e = .returned (.agg #[.int .i64 o.p, .int .u64 (countN draws o bar).1, .int .u64 (countN draws o bar).2]) ∧ Only [] w w' := by
  have hlt := lt_of_cell hc
  obtain ⟨W0, hW0⟩ : ∃ W0, W0 = ((w.alloc (.cells #[.int .u64 o.w, .int .u64 o.d, .int .i64 o.p] 56)).alloc (.cells #[.int .u64 bar.w, .int .u64 bar.d, .int .i64 bar.p] 56)).alloc (.cells #[.int .i64 0, .int .u64 0, .int .u64 0] 33) := ⟨_, rfl⟩
  have oW : Only [] w W0 := by rw [hW0]; exact (((Only.refl _ _).alloc _).alloc _).alloc _
  have b0 : W0.heap[w.heap.size]? = some (.cells #[.int .u64 o.w, .int .u64 o.d, .int .i64 o.p] 56 (0, 0)) := by
    rw [hW0]
    exact (((Only.refl [] _).alloc _).alloc _).blk (heap_alloc_new _ _) (by simp)
  have b1 : W0.heap[w.heap.size + 1]? = some (.cells #[.int .u64 bar.w, .int .u64 bar.d, .int .i64 bar.p] 56 (0, 0)) := by
    rw [hW0]
    have h1 := heap_alloc_new (w.alloc (.cells #[.int .u64 o.w, .int .u64 o.d, .int .i64 o.p] 56)) (.cells #[.int .u64 bar.w, .int .u64 bar.d, .int .i64 bar.p] 56)
    rw [show (w.alloc (.cells #[.int .u64 o.w, .int .u64 o.d, .int .i64 o.p] 56)).heap.size = w.heap.size + 1 by simp] at h1
    exact ((Only.refl [] _).alloc _).blk h1 (by simp)
  have b2 : W0.heap[w.heap.size + 2]? = some (.cells #[.int .i64 0, .int .u64 0, .int .u64 0] 33 (0, 0)) := by
    rw [hW0]
    have h1 := heap_alloc_new ((w.alloc (.cells #[.int .u64 o.w, .int .u64 o.d, .int .i64 o.p] 56)).alloc (.cells #[.int .u64 bar.w, .int .u64 bar.d, .int .i64 bar.p] 56)) (.cells #[.int .i64 0, .int .u64 0, .int .u64 0] 33)
    rw [show ((w.alloc (.cells #[.int .u64 o.w, .int .u64 o.d, .int .i64 o.p] 56)).alloc (.cells #[.int .u64 bar.w, .int .u64 bar.d, .int .i64 bar.p] 56)).heap.size = w.heap.size + 2 by simp] at h1
    exact h1
  have HW := Lib.hid (And.intro oW (And.intro b0 (And.intro b1 b2)))
  clear oW b0 b1 b2
  unfold ofV
  go_enter Try.func22, Try.ntmps22
  go_wp2_with fail
  rw [← hW0]
  refine (all_walk hp draws bar.w (HW.out.1.cell hc (by simp)) hb.w hd).mono ?_
  rintro e w1 ⟨rfl, o1⟩
  have o01 := HW.out.1.trans o1
  have b0 := o1.blk HW.out.2.1 (by simp)
  have b1 := o1.blk HW.out.2.2.1 (by simp)
  have b2 := o1.blk HW.out.2.2.2 (by simp)
  have Hth : Hid (∀ W, Only [] (w1.alloc (.cells (wideV (allN draws bar.w)) 75)) W → (W.cell? ⟨w.heap.size, 0, none⟩ = some (.int .u64 o.w) ∧ W.cell? ⟨w.heap.size + 1, 1, none⟩ = some (.int .u64 bar.d) ∧ W.cell? ⟨w1.heap.size, 0, none⟩ = some (.int .u64 ((allN draws bar.w / big : Nat) : Int)) ∧ W.cell? ⟨w1.heap.size, 1, none⟩ = some (.int .u64 ((allN draws bar.w % big : Nat) : Int)))) := Lib.hid (by
    intro W oW
    have oa : Only [] w1 (w1.alloc (.cells (wideV (allN draws bar.w)) 75)) := (Only.refl _ _).alloc _
    have hb0 := oW.blk (oa.blk b0 (by simp)) (by simp)
    have hb1 := oW.blk (oa.blk b1 (by simp)) (by simp)
    have hbw := oW.blk (heap_alloc_new w1 (.cells (wideV (allN draws bar.w)) 75)) (by simp)
    refine ⟨?_, ?_, ?_, ?_⟩
    · rw [cell_of_blk hb0]; rfl
    · rw [cell_of_blk hb1]; rfl
    · rw [cell_of_blk hbw]; rfl
    · rw [cell_of_blk hbw]; rfl)
  have C1 := Lib.hid (fun W => next_walk o.w bar.d W ho.w hb.d)
  have C2 := Lib.hid (fun W => wabove_walk (allN draws bar.w) (nextN o.w bar.d) W)
  have n1 : allN draws bar.w ≤ nextN o.w bar.d → countN draws o bar = (o.w, 1) := fun h => by rw [countN, if_pos h]
  have n2 : ¬ allN draws bar.w ≤ nextN o.w bar.d → bar.d + 1 = big → countN draws o bar = (bar.w, 1) := fun h k => by rw [countN, if_neg h, if_pos k]
  have n3 : ¬ allN draws bar.w ≤ nextN o.w bar.d → ¬ bar.d + 1 = big → countN draws o bar = (overN (allN draws bar.w / big) (allN draws bar.w % big) (Nat.gcd (bar.d + 1) (allN draws bar.w % (bar.d + 1))), (bar.d + 1) / Nat.gcd (bar.d + 1) (allN draws bar.w % (bar.d + 1))) := fun h k => by rw [countN, if_neg h, if_neg k]
  have hAm : allN draws bar.w = allN draws bar.w / big * big + allN draws bar.w % big := by rw [Nat.mul_comm]; exact (Nat.div_add_mod _ _).symm
  have Hn := Lib.hid (And.intro n1 (And.intro n2 (And.intro n3 hAm)))
  clear n1 n2 n3 hAm
  have hA2 : allN draws bar.w < big * big := by
    unfold allN
    split
    · exact Nat.mul_lt_mul_of_pos_right hb.w (by decide)
    · exact mul_lt hb.w hd
  have hA1 : allN draws bar.w / big < big := Nat.div_lt_of_lt_mul hA2
  have hA0 : allN draws bar.w % big < big := Nat.mod_lt _ (by decide)
  have HA := Lib.hid (And.intro hA1 hA0)
  clear hA2 hA1 hA0
  unfold wideV at C1 C2 Hth ⊢
  generalize allN draws bar.w = A at *
  generalize nextN o.w bar.d = B at *
  generalize A / big = A1 at *
  generalize A % big = A0 at *
  generalize B / big = B1 at *
  generalize B % big = B0 at *
  go_wp2_with fail
  obtain ⟨w2, hw2⟩ : ∃ w2, w2 = w1.alloc (.cells #[.int .u64 (A1 : Int), .int .u64 (A0 : Int)] 75) := ⟨_, rfl⟩
  go_region_held3 (fun W => W.cell? ⟨w.heap.size, 0, none⟩ = some (.int .u64 o.w) ∧ W.cell? ⟨w.heap.size + 1, 1, none⟩ = some (.int .u64 bar.d) ∧ W.cell? ⟨w1.heap.size, 0, none⟩ = some (.int .u64 (A1 : Int)) ∧ W.cell? ⟨w1.heap.size, 1, none⟩ = some (.int .u64 (A0 : Int))) ((refine Hth.out _ ?_; first | assumption | exact (Only.refl _ _).drew | (refine Only.alloc ?_ _; assumption)))
    ((first
    | (go_at_call 29; refine (C1.out _).mono ?_; rintro e w3 ⟨rfl, o2⟩; have o3 := Only.trans (S := []) (a := (w1.alloc (.cells #[.int .u64 (A1 : Int), .int .u64 (A0 : Int)] 75))) (by first | assumption | exact (Only.refl _ _).drew) o2; clear o2)
    | (go_at_call 30; refine (C2.out _).mono ?_; rintro e w3 ⟨rfl, o2⟩; have o3 := Only.trans (S := []) (a := (w1.alloc (.cells #[.int .u64 (A1 : Int), .int .u64 (A0 : Int)] 75))) (by first | assumption | exact (Only.refl _ _).drew) o2; clear o2)))
  obtain ⟨n3, hn3⟩ : ∃ n, n = w.heap.size + 1 + 1 := ⟨_, rfl⟩
  have Hw3 : Hid (Only [] (w1.alloc (.cells #[.int .u64 (A1 : Int), .int .u64 (A0 : Int)] 75)) w3) := Lib.hid (by assumption)
  have oa : Only [] w1 (w1.alloc (.cells #[.int .u64 (A1 : Int), .int .u64 (A0 : Int)] 75)) := (Only.refl _ _).alloc _
  have q0 := Hw3.out.blk (oa.blk b0 (by simp)) (by simp)
  have q1 := Hw3.out.blk (oa.blk b1 (by simp)) (by simp)
  have q2 := Hw3.out.blk (oa.blk b2 (by simp)) (by simp)
  have c02 : w3.cell? ⟨w.heap.size, 2, none⟩ = some (.int .i64 o.p) := by rw [cell_of_blk q0]; rfl
  have c00 : w3.cell? ⟨w.heap.size, 0, none⟩ = some (.int .u64 o.w) := by rw [cell_of_blk q0]; rfl
  have c10 : w3.cell? ⟨w.heap.size + 1, 0, none⟩ = some (.int .u64 bar.w) := by rw [cell_of_blk q1]; rfl
  have c11 : w3.cell? ⟨w.heap.size + 1, 1, none⟩ = some (.int .u64 bar.d) := by rw [cell_of_blk q1]; rfl
  have c20 : w3.cell? ⟨w.heap.size + 1 + 1, 0, none⟩ = some (.int .i64 0) := by rw [cell_of_blk q2]; rfl
  have c21 : w3.cell? ⟨w.heap.size + 1 + 1, 1, none⟩ = some (.int .u64 0) := by rw [cell_of_blk q2]; rfl
  have c22 : w3.cell? ⟨w.heap.size + 1 + 1, 2, none⟩ = some (.int .u64 0) := by rw [cell_of_blk q2]; rfl
  have fr0 : w3.frozen? ⟨w.heap.size + 1 + 1, 0, none⟩ = false := frozen_of_blk q2
  have fr1 : w3.frozen? ⟨w.heap.size + 1 + 1, 1, none⟩ = false := frozen_of_blk q2
  have fr2 : w3.frozen? ⟨w.heap.size + 1 + 1, 2, none⟩ = false := frozen_of_blk q2
  have lt2 := lt_of_blk q2
  have Ho3 := Lib.hid ((o01.trans oa).trans Hw3.out)
  have qa := Hw3.out.blk (heap_alloc_new w1 (.cells #[.int .u64 (A1 : Int), .int .u64 (A0 : Int)] 75)) (by simp)
  have Hq := Lib.hid (And.intro q0 (And.intro q2 qa))
  clear q0 q1 q2 qa oa
  by_cases hAB : B < A
  · have k1 : decide (B < A) = true := decide_eq_true hAB
    rw [k1]
    have hab : ¬ A ≤ B := Nat.not_le_of_lt hAB
    have hbd := hb.d
    by_cases hz : bar.d + 1 = big
    · have n1 := Hn.out.2.1 hab hz
      have Hn1 := Lib.hid n1
      have kw : IntKind.u64.wrap ((bar.d : Int) + 1) = 0 := by
        rw [wrap_u64]; unfold big at hz; omega
      have kz : (IntKind.u64.wrap ((bar.d : Int) + 1) == 0) = true := by rw [kw]; rfl
      clear n1 hz hAB hab hbd
      go_wp2_with fail
      all_goals (try rw [Hn1.out])
      all_goals (exact bodyPost_ret (v := .agg #[.int .i64 (o.p : Int), .int .u64 (bar.w : Int), .int .u64 1]) (by simp [results, Try.results22, go_sem, *]) rfl ⟨rfl, Ho3.out.trans' ((((Only.refl [w.heap.size + 1 + 1] _).setCell (p := ⟨w.heap.size + 1 + 1, 0, none⟩) (.inl (by simp)) _).setCell (p := ⟨w.heap.size + 1 + 1, 1, none⟩) (.inl (by simp)) _).setCell (p := ⟨w.heap.size + 1 + 1, 2, none⟩) (.inl (by simp)) _) (fun x hx hlt => by
        simp only [List.mem_singleton] at hx
        omega)⟩)
    · have n1 := Hn.out.2.2.1 hab hz
      obtain ⟨D, hD⟩ : ∃ D, D = bar.d + 1 := ⟨_, rfl⟩
      rw [← hD] at n1
      have hDb : D < 18446744073709551616 := by unfold big at *; omega
      have hD0 : 0 < D := by omega
      have kw : IntKind.u64.wrap ((bar.d : Int) + 1) = (D : Int) := by
        rw [wrap_u64]; omega
      have k2 : ((D : Int) == 0) = false := by rw [beq_eq_false_iff_ne]; omega
      have Hn1 := Lib.hid (And.intro n1 (And.intro hD Hn.out.2.2.2))
      clear n1 hz hAB hab hbd hD
      go_wp2_with fail
      refine (rem64 A1 A0 D hD0 HA.out.1 hDb HA.out.2).mono ?_
      rintro e w4 ⟨rfl, o4⟩
      have hR : (A1 * 18446744073709551616 + A0) % D < D := Nat.mod_lt _ hD0
      have HG := Lib.hid (show Nat.gcd D ((A1 * 18446744073709551616 + A0) % D) = Nat.gcd D ((A1 * 18446744073709551616 + A0) % D) from rfl)
      obtain ⟨G, hG⟩ : ∃ G, G = Nat.gcd D ((A1 * 18446744073709551616 + A0) % D) := ⟨_, rfl⟩
      rw [← hG] at HG
      obtain ⟨R, hRR⟩ : ∃ R, R = (A1 * 18446744073709551616 + A0) % D := ⟨_, rfl⟩
      rw [← hRR] at hR hG
      have HR := Lib.hid (And.intro hG hRR)
      have ho4 : Hid (Only [] w3 w4) := Lib.hid (by first | exact o4 | exact (((Only.refl _ _).drew).trans o4))
      rw [← hRR]
      clear HG hG hRR o4
      go_wp2_with fail
      go_loopw [9, 10] (fun xv yv wr => ∃ x y : Nat, xv = .int .u64 x ∧ yv = .int .u64 y ∧ Nat.gcd x y = G ∧ y < x ∧ x ≤ D ∧ Only [] w4 wr) (fun _ yv _ => (intOf yv).toNat)
      case atStart => exact ⟨D, R, rfl, rfl, HR.out.1.symm, hR, Nat.le_refl _, by first | exact Only.refl _ _ | exact (Only.refl _ _).drew⟩
      case round =>
        obtain ⟨x, y, rfl, rfl, hg, hyx, hxD, ow⟩ := hrel
        have Hg := Lib.hid hg
        clear hg
        by_cases hy : y = 0
        · have ky : ((y : Int) != 0) = false := by rw [bne, beq_iff_eq.2 (by omega)]; rfl
          have hxG : x = G := by have := Hg.out; rw [hy, Nat.gcd_zero_right] at this; exact this
          have hx0 : 0 < x := by omega
          have hoc := fun W => over_walk (w := W) A1 A0 x HA.out.1 (by omega) HA.out.2
          have Hoc := Lib.hid hoc
          have HxG := Lib.hid hxG
          clear hoc hxG
          have o3r := ho4.out.trans ow
          have Hor := Lib.hid (Ho3.out.trans o3r)
          have r0 := o3r.blk Hq.out.1 (by simp)
          have r2 := o3r.blk Hq.out.2.1 (by simp)
          have ra := o3r.blk Hq.out.2.2 (by simp)
          have Hth2 : Hid (∀ W, Only [] wr W → (W.cell? ⟨w.heap.size, 2, none⟩ = some (.int .i64 o.p) ∧ W.cell? ⟨w1.heap.size, 0, none⟩ = some (.int .u64 (A1 : Int)) ∧ W.cell? ⟨w1.heap.size, 1, none⟩ = some (.int .u64 (A0 : Int)) ∧ W.cell? ⟨w.heap.size + 1 + 1, 0, none⟩ = some (.int .i64 0) ∧ W.cell? ⟨w.heap.size + 1 + 1, 1, none⟩ = some (.int .u64 0) ∧ W.cell? ⟨w.heap.size + 1 + 1, 2, none⟩ = some (.int .u64 0) ∧ W.frozen? ⟨w.heap.size + 1 + 1, 0, none⟩ = false ∧ W.frozen? ⟨w.heap.size + 1 + 1, 1, none⟩ = false ∧ W.frozen? ⟨w.heap.size + 1 + 1, 2, none⟩ = false)) := Lib.hid (by
            intro W oW
            have hb0 := oW.blk r0 (by simp)
            have hb2 := oW.blk r2 (by simp)
            have hba := oW.blk ra (by simp)
            refine ⟨?_, ?_, ?_, ?_, ?_, ?_, frozen_of_blk hb2, frozen_of_blk hb2, frozen_of_blk hb2⟩
            · rw [cell_of_blk hb0]; rfl
            · rw [cell_of_blk hba]; rfl
            · rw [cell_of_blk hba]; rfl
            · rw [cell_of_blk hb2]; rfl
            · rw [cell_of_blk hb2]; rfl
            · rw [cell_of_blk hb2]; rfl)
          clear r0 r2 ra o3r
          go_wp2_with fail
          have hq1 : D / x ≤ D := Nat.div_le_self _ _
          have hq2 : ((D : Int) / (x : Int)) = ((D / x : Nat) : Int) := by simp
          have kq : IntKind.u64.wrap ((D : Int) / (x : Int)) = ((D / x : Nat) : Int) := by
            rw [hq2, wraps_u64 _ (Int.natCast_nonneg _) (Int.lt_of_le_of_lt (Int.ofNat_le.2 hq1) (by omega))]
          have kx : ((x : Int) == 0) = false := by rw [beq_eq_false_iff_ne]; omega
          have kx0 : ¬ x = 0 := by omega
          have Hc : Hid (countN draws o bar = (overN A1 A0 x, D / x)) := Lib.hid (by
            have h1 : Nat.gcd D (A % D) = x := by
              rw [HxG.out, HR.out.1, HR.out.2, Hn1.out.2.2]; rfl
            rw [Hn1.out.1, h1])
          have c0 := Hth2.out wr (Only.refl _ _)
          obtain ⟨d1, d2, d3, d4, d5, d6, d7, d8, d9⟩ := c0
          clear hq1 hq2
          go_region_with (go_at_call 36; refine (Hoc.out _).mono ?_; rintro e w5 ⟨rfl, o5⟩; have o6 := Only.trans (S := []) (a := wr) (by first | exact Only.refl _ _ | exact (Only.refl _ _).drew | assumption) o5; clear o5; obtain ⟨f1, f2, f3, f4, f5, f6, f7, f8, f9⟩ := Hth2.out _ o6)
          all_goals (go_wp2_with fail)
          all_goals (rw [Hc.out])
          all_goals (exact bodyPost_ret (v := .agg #[.int .i64 (o.p : Int), .int .u64 (overN A1 A0 x : Nat), .int .u64 ((D / x : Nat) : Int)]) (by simp [results, Try.results22, go_sem, *]) rfl ⟨rfl, (Hor.out.trans (by assumption)).trans' ((((Only.refl [w.heap.size + 1 + 1] _).setCell (p := ⟨w.heap.size + 1 + 1, 0, none⟩) (.inl (by simp)) _).setCell (p := ⟨w.heap.size + 1 + 1, 1, none⟩) (.inl (by simp)) _).setCell (p := ⟨w.heap.size + 1 + 1, 2, none⟩) (.inl (by simp)) _) (fun x hx hlt => by
            simp only [List.mem_singleton] at hx
            omega)⟩)
        · have ky : ((y : Int) != 0) = true := by rw [bne, beq_eq_false_iff_ne.2 (by omega)]; rfl
          have kz : ((y : Int) == 0) = false := by rw [beq_eq_false_iff_ne]; omega
          have hm : x % y < y := Nat.mod_lt _ (by omega)
          have hgx : Nat.gcd y (x % y) = G := by rw [← Hg.out, Nat.gcd_comm x y, Nat.gcd_rec y x]; exact Nat.gcd_comm _ _
          have Hgx := Lib.hid hgx
          clear hgx
          go_wp2_with fail
          go_region
          all_goals go_roundw
          case rel =>
            (repeat apply Exists.intro)
            refine ⟨?_, rfl⟩
            exact ⟨y, x % y, rfl, by go_num, Hgx.out, hm, by omega, by first | exact ow | exact ow.drew⟩
          case measure => simp [intOf]; omega
  · have k1 : decide (B < A) = false := decide_eq_false hAB
    rw [k1]
    have n1 := Hn.out.1 (Nat.le_of_not_lt hAB)
    have Hn1 := Lib.hid n1
    clear n1
    go_wp2_with fail
    all_goals (try rw [Hn1.out])
    all_goals (exact bodyPost_ret (v := .agg #[.int .i64 (o.p : Int), .int .u64 (o.w : Int), .int .u64 1]) (by simp [results, Try.results22, go_sem, *]) rfl ⟨rfl, Ho3.out.trans' ((((Only.refl [w.heap.size + 1 + 1] _).setCell (p := ⟨w.heap.size + 1 + 1, 0, none⟩) (.inl (by simp)) _).setCell (p := ⟨w.heap.size + 1 + 1, 1, none⟩) (.inl (by simp)) _).setCell (p := ⟨w.heap.size + 1 + 1, 2, none⟩) (.inl (by simp)) _) (fun x hx hlt => by
      simp only [List.mem_singleton] at hx
      omega)⟩)

end Go.Proofs.Ytbboklmmnnedjaa
