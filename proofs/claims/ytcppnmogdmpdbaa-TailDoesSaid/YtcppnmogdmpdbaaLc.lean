/- The document's answer for Offer, walked. -/
import Derived.Test.YtcppnmogdmpdbaaLd
import Derived.Deep.RegionHeld3
set_option linter.unusedVariables false
set_option linter.unusedSimpArgs false
namespace Go.Proofs.Ytcppnmogdmpdbaa
open Go.RowKit Go.Mk Go.Hp
attribute [-go_sem] Builtin.append_

section
variable {w : World} {lp kp : Option Addr} {lc kc : Nat} {P : List (Ab × Value)} {K : List Dec}

set_option maxRecDepth 100000 in
set_option maxHeartbeats 4000000 in
theorem ref13_Offer_not (ms wt ch nw cm n : Int) (sp : Sp) (hn : n < nw ∨ 1099511627776 < n) (w : World) :
    Calls Try.prog 55 #[.agg #[.int .i64 ms, .int .i64 wt, .int .i64 ch, .int .i64 nw, .int .i64 cm, .slice lp P.length lc, .slice kp K.length kc], .int .i64 n, .agg sp.arr] w fun e w' => e = .returned (.tuple #[.agg #[.int .i64 ms, .int .i64 wt, .int .i64 ch, .int .i64 nw, .int .i64 cm, .slice lp P.length lc, .slice kp K.length kc], .int .u8 0, .int .i64 60]) ∧ Only [] w w' := by
  obtain ⟨w1, hw1⟩ : ∃ w1, w1 = ((w.alloc (.cells #[.int .i64 ms, .int .i64 wt, .int .i64 ch, .int .i64 nw, .int .i64 cm, .slice lp P.length lc, .slice kp K.length kc] 88)).alloc (.cells sp.arr 65)).alloc (.cells #[.int .i64 0, .int .i64 0, .int .i64 0, .int .i64 0, .int .i64 0, .slice none 0 0, .slice none 0 0] 88) := ⟨_, rfl⟩
  have O1 := Lib.hid (show Only [] w w1 by rw [hw1]; exact (((Only.refl _ _).alloc _).alloc _).alloc _)
  have hs : w1.heap.size = w.heap.size + 3 := by rw [hw1]; simp
  obtain ⟨⟨t1, t2⟩, id, par, nm, st, en, bad, rv⟩ := sp
  unfold Sp.arr at *
  go_enter Try.func55, Try.ntmps55
  have hcs : decide (n < nw) = true ∨ (decide (n < nw) = false ∧ decide (1099511627776 < n) = true) := by
    by_cases h : n < nw
    · exact .inl (decide_eq_true h)
    · exact .inr ⟨decide_eq_false h, decide_eq_true (hn.resolve_left h)⟩
  clear hn hw1
  rcases hcs with h1 | ⟨h1, h2⟩
  all_goals
    go_wp2_with fail
    refine bodyPost_ret (v := .tuple #[.agg #[.int .i64 ms, .int .i64 wt, .int .i64 ch, .int .i64 nw, .int .i64 cm, .slice lp P.length lc, .slice kp K.length kc], .int .u8 0, .int .i64 60]) (by simp [results, Try.results55, go_sem]; try rfl) rfl ?_
    exact ⟨rfl, (((Only.refl _ _).alloc _).alloc _).alloc _⟩

theorem only_set7 (w : World) (b : Nat) (v0 v1 v2 v3 v4 v5 v6 : Value) : Only [b] w (((((((w.setCell ⟨b, 0, none⟩ v0).setCell ⟨b, 1, none⟩ v1).setCell ⟨b, 2, none⟩ v2).setCell ⟨b, 3, none⟩ v3).setCell ⟨b, 4, none⟩ v4).setCell ⟨b, 5, none⟩ v5).setCell ⟨b, 6, none⟩ v6) := by
  iterate 7 refine Only.setCell ?_ (.inl (by simp)) _
  exact Only.refl _ _
theorem only_fin1 (w : World) (a b : Nat) (l v0 v1 v2 v3 v4 v5 v6 : Value) : Only [a, b] w ((((((((w.setCell ⟨a, 5, none⟩ l).setCell ⟨b, 0, none⟩ v0).setCell ⟨b, 1, none⟩ v1).setCell ⟨b, 2, none⟩ v2).setCell ⟨b, 3, none⟩ v3).setCell ⟨b, 4, none⟩ v4).setCell ⟨b, 5, none⟩ v5).setCell ⟨b, 6, none⟩ v6) := by
  iterate 8 refine Only.setCell ?_ (.inl (by simp)) _
  exact Only.refl _ _
theorem only_fin2 (w : World) (a b : Nat) (c l v0 v1 v2 v3 v4 v5 v6 : Value) : Only [a, b] w (((((((((w.setCell ⟨a, 4, none⟩ c).setCell ⟨a, 5, none⟩ l).setCell ⟨b, 0, none⟩ v0).setCell ⟨b, 1, none⟩ v1).setCell ⟨b, 2, none⟩ v2).setCell ⟨b, 3, none⟩ v3).setCell ⟨b, 4, none⟩ v4).setCell ⟨b, 5, none⟩ v5).setCell ⟨b, 6, none⟩ v6) := by
  iterate 9 refine Only.setCell ?_ (.inl (by simp)) _
  exact Only.refl _ _
theorem fin13 {w w1 w2 : World} {lv kv : Value} {P : List (Ab × Value)} {K : List Dec} (h : RefB w lv kv P K) (o : Only [] w w1) {b2 : Nat} (hb : w.heap.size ≤ b2) (o2 : Only [b2] w1 w2) : RefB w2 lv kv P K ∧ Only [] w w2 :=
  ⟨(h.only o (by simp)).only o2 (fun x hx hm => by have := h.lt x hx; rw [List.mem_singleton] at hm; omega), o.trans' o2 (fun x hx hlt => by rw [List.mem_singleton] at hx; omega)⟩
theorem says_known {K : List Dec} {A : List Ab} {most cm due : Int} {sp : Sp} {kp : Bool} (h : asc K sp.tr = some kp) : saysA K A most sp.tr = (if kp then 4 else 3) ∧ afterA (saysA K A most sp.tr) A cm due sp = A ∧ afterC (saysA K A most sp.tr) A cm sp.tr = cm := by
  have h1 : saysA K A most sp.tr = (if kp then 4 else 3) := by unfold saysA; rw [h]; cases kp <;> rfl
  unfold afterA afterC
  rw [h1]
  cases kp <;> simp
theorem says_full {K : List Dec} {A : List Ab} {most cm due : Int} {sp : Sp} (h : asc K sp.tr = none) (hf : most ≤ (spansA A : Int)) : saysA K A most sp.tr = 2 ∧ afterA (saysA K A most sp.tr) A cm due sp = A ∧ afterC (saysA K A most sp.tr) A cm sp.tr = cm := by
  have h1 : saysA K A most sp.tr = 2 := by unfold saysA; rw [h]; exact if_pos hf
  unfold afterA afterC
  rw [h1]
  simp
theorem says_take {K : List Dec} {A : List Ab} {most cm due : Int} {sp : Sp} (h : asc K sp.tr = none) (hf : ¬ most ≤ (spansA A : Int)) : saysA K A most sp.tr = 1 ∧ afterA (saysA K A most sp.tr) A cm due sp = takeA A cm due sp ∧ afterC (saysA K A most sp.tr) A cm sp.tr = cameA A cm sp.tr := by
  have h1 : saysA K A most sp.tr = 1 := by unfold saysA; rw [h]; exact if_neg hf
  unfold afterA afterC
  rw [h1]
  simp

set_option maxRecDepth 100000 in
set_option maxHeartbeats 8000000 in
theorem ref13_Offer (h : RefB w (.slice lp P.length lc) (.slice kp K.length kc) P K) (hK : K.length ≤ 5000) (hP : P.length ≤ 5000) (hs : spansA (P.map (·.1)) ≤ 5000) (ms wt ch nw cm n : Int) (sp : Sp) (hn1 : nw ≤ n) (hn2 : n ≤ 1099511627776) (hn0 : 0 ≤ n) (hw1 : 1 ≤ wt) (hw2 : wt ≤ 1099511627776) (hc1 : 0 ≤ cm) (hc2 : cm < 1000000) :
    Calls Try.prog 55 #[.agg #[.int .i64 ms, .int .i64 wt, .int .i64 ch, .int .i64 nw, .int .i64 cm, .slice lp P.length lc, .slice kp K.length kc], .int .i64 n, .agg sp.arr] w fun e w' => ∃ lp' lc' P', e = .returned (.tuple #[.agg #[.int .i64 ms, .int .i64 wt, .int .i64 ch, .int .i64 n, .int .i64 (afterC (saysA K (P.map (·.1)) ms sp.tr) (P.map (·.1)) cm sp.tr), .slice lp' P'.length lc', .slice kp K.length kc], .int .u8 (saysA K (P.map (·.1)) ms sp.tr), .int .i64 0]) ∧
      P'.map (·.1) = afterA (saysA K (P.map (·.1)) ms sp.tr) (P.map (·.1)) cm (n + wt) sp ∧ RefB w' (.slice lp' P'.length lc') (.slice kp K.length kc) P' K ∧ Only [] w w' ∧ ∀ x ∈ rbl P' (.slice lp' P'.length lc') (.slice kp K.length kc), x ∈ rbl P (.slice lp P.length lc) (.slice kp K.length kc) ∨ w.heap.size ≤ x := by
  obtain ⟨w1, hww⟩ : ∃ w1, w1 = (((w.alloc (.cells #[.int .i64 ms, .int .i64 wt, .int .i64 ch, .int .i64 n, .int .i64 cm, .slice lp P.length lc, .slice kp K.length kc] 88)).alloc (.cells #[.int .u64 sp.tr.1, .int .u64 sp.tr.2, .int .u64 sp.id, .int .u64 sp.par, .string sp.nm, .int .i64 sp.st, .int .i64 sp.en, .bool sp.bad, .slice none 0 0, .int .u64 sp.rv] 65)).alloc (.cells #[.int .i64 0, .int .i64 0, .int .i64 0, .int .i64 0, .int .i64 0, .slice none 0 0, .slice none 0 0] 88)) := ⟨_, rfl⟩
  have o1 : Only [] w w1 := by rw [hww]; exact (((Only.refl _ _).alloc _).alloc _).alloc _
  obtain ⟨b, hb⟩ : ∃ b, b = w.heap.size := ⟨_, rfl⟩
  obtain ⟨b1, hb1⟩ : ∃ b1, b1 = b + 1 := ⟨_, rfl⟩
  obtain ⟨b2, hb2⟩ : ∃ b2, b2 = b + 1 + 1 := ⟨_, rfl⟩
  have k0 : w1.heap[b]? = some (.cells #[.int .i64 ms, .int .i64 wt, .int .i64 ch, .int .i64 n, .int .i64 cm, .slice lp P.length lc, .slice kp K.length kc] 88 (0, 0)) := by
    rw [hww, hb]; exact (((Only.refl [] _).alloc _).alloc _).blk (heap_alloc_new w _) (by simp)
  have k1 : w1.heap[b1]? = some (.cells #[.int .u64 sp.tr.1, .int .u64 sp.tr.2, .int .u64 sp.id, .int .u64 sp.par, .string sp.nm, .int .i64 sp.st, .int .i64 sp.en, .bool sp.bad, .slice none 0 0, .int .u64 sp.rv] 65 (0, 0)) := by
    rw [hww, hb1, hb]
    refine ((Only.refl [] _).alloc _).blk ?_ (by simp)
    have h1 := heap_alloc_new (w.alloc (.cells #[.int .i64 ms, .int .i64 wt, .int .i64 ch, .int .i64 n, .int .i64 cm, .slice lp P.length lc, .slice kp K.length kc] 88)) (.cells #[.int .u64 sp.tr.1, .int .u64 sp.tr.2, .int .u64 sp.id, .int .u64 sp.par, .string sp.nm, .int .i64 sp.st, .int .i64 sp.en, .bool sp.bad, .slice none 0 0, .int .u64 sp.rv] 65)
    rw [show (w.alloc (.cells #[.int .i64 ms, .int .i64 wt, .int .i64 ch, .int .i64 n, .int .i64 cm, .slice lp P.length lc, .slice kp K.length kc] 88)).heap.size = w.heap.size + 1 by simp] at h1
    exact h1
  have k2 : w1.heap[b2]? = some (.cells #[.int .i64 0, .int .i64 0, .int .i64 0, .int .i64 0, .int .i64 0, .slice none 0 0, .slice none 0 0] 88 (0, 0)) := by
    rw [hww, hb2, hb]
    have h1 := heap_alloc_new ((w.alloc (.cells #[.int .i64 ms, .int .i64 wt, .int .i64 ch, .int .i64 n, .int .i64 cm, .slice lp P.length lc, .slice kp K.length kc] 88)).alloc (.cells #[.int .u64 sp.tr.1, .int .u64 sp.tr.2, .int .u64 sp.id, .int .u64 sp.par, .string sp.nm, .int .i64 sp.st, .int .i64 sp.en, .bool sp.bad, .slice none 0 0, .int .u64 sp.rv] 65)) (.cells #[.int .i64 0, .int .i64 0, .int .i64 0, .int .i64 0, .int .i64 0, .slice none 0 0, .slice none 0 0] 88)
    rw [show ((w.alloc (.cells #[.int .i64 ms, .int .i64 wt, .int .i64 ch, .int .i64 n, .int .i64 cm, .slice lp P.length lc, .slice kp K.length kc] 88)).alloc (.cells #[.int .u64 sp.tr.1, .int .u64 sp.tr.2, .int .u64 sp.id, .int .u64 sp.par, .string sp.nm, .int .i64 sp.st, .int .i64 sp.en, .bool sp.bad, .slice none 0 0, .int .u64 sp.rv] 65)).heap.size = w.heap.size + 1 + 1 by simp] at h1
    exact h1
  have g1 : decide (n < nw) = false := decide_eq_false (by omega)
  have g2 : decide (1099511627776 < n) = false := decide_eq_false (by omega)
  have H := Lib.hid (And.intro h (And.intro o1 (Nat.le_of_eq hb.symm)))
  obtain ⟨R0, hR0⟩ : ∃ R0, R0 = rbl P (.slice lp P.length lc) (.slice kp K.length kc) := ⟨_, rfl⟩
  rw [← hR0]
  have Hlt := Lib.hid (show ∀ x ∈ R0, x < w.heap.size by rw [hR0]; exact h.lt)
  have HRP := Lib.hid (show ∀ p ∈ P, ∀ x ∈ blockOf p.2, x ∈ R0 from fun p hp x hx => by rw [hR0]; exact mem_rbl.2 (.inr (.inr ⟨p, hp, hx⟩)))
  have HRK := Lib.hid (show ∀ x ∈ blockOf (.slice kp K.length kc), x ∈ R0 from fun x hx => by rw [hR0]; exact mem_rbl.2 (.inr (.inl hx)))
  have HR0 := Lib.hid hR0
  clear hR0
  have HB := Lib.hid (And.intro k0 (And.intro k1 k2))
  have Hsz := Lib.hid (show w.heap.size = b ∧ b1 = b + 1 ∧ b2 = b + 2 from ⟨hb.symm, hb1, hb2⟩)
  have HN := Lib.hid (And.intro hP hs)
  have hKI : (K.length : Int) ≤ 5000 := by omega
  have hPI : (P.length : Int) ≤ 5000 := by omega
  clear h o1 hK hs hP
  unfold Sp.arr
  go_enter Try.func55, Try.ntmps55
  go_wp2_with fail
  rw [← hww, ← hb, ← hb2, ← hb1]
  have l0 : b < w1.heap.size := lt_of_blk k0
  have l1 : b1 < w1.heap.size := lt_of_blk k1
  have l2 : b2 < w1.heap.size := lt_of_blk k2
  have d0 : w1.cell? ⟨b, 0, none⟩ = some (.int .i64 ms) := blk_cells k0 0 _ rfl
  have d1 : w1.cell? ⟨b, 1, none⟩ = some (.int .i64 wt) := blk_cells k0 1 _ rfl
  have d2 : w1.cell? ⟨b, 2, none⟩ = some (.int .i64 ch) := blk_cells k0 2 _ rfl
  have d3 : w1.cell? ⟨b, 3, none⟩ = some (.int .i64 n) := blk_cells k0 3 _ rfl
  have d4 : w1.cell? ⟨b, 4, none⟩ = some (.int .i64 cm) := blk_cells k0 4 _ rfl
  have d5 : w1.cell? ⟨b, 5, none⟩ = some (.slice lp P.length lc) := blk_cells k0 5 _ rfl
  have d6 : w1.cell? ⟨b, 6, none⟩ = some (.slice kp K.length kc) := blk_cells k0 6 _ rfl
  have s0 : w1.cell? ⟨b1, 0, none⟩ = some (.int .u64 sp.tr.1) := blk_cells k1 0 _ rfl
  have s1 : w1.cell? ⟨b1, 1, none⟩ = some (.int .u64 sp.tr.2) := blk_cells k1 1 _ rfl
  have f0 : w1.cell? ⟨b2, 0, none⟩ = some (.int .i64 0) := blk_cells k2 0 _ rfl
  have f1 : w1.cell? ⟨b2, 1, none⟩ = some (.int .i64 0) := blk_cells k2 1 _ rfl
  have f2 : w1.cell? ⟨b2, 2, none⟩ = some (.int .i64 0) := blk_cells k2 2 _ rfl
  have f3 : w1.cell? ⟨b2, 3, none⟩ = some (.int .i64 0) := blk_cells k2 3 _ rfl
  have f4 : w1.cell? ⟨b2, 4, none⟩ = some (.int .i64 0) := blk_cells k2 4 _ rfl
  have f5 : w1.cell? ⟨b2, 5, none⟩ = some (.slice none 0 0) := blk_cells k2 5 _ rfl
  have f6 : w1.cell? ⟨b2, 6, none⟩ = some (.slice none 0 0) := blk_cells k2 6 _ rfl
  have z2 : ∀ j, w1.frozen? ⟨b2, j, none⟩ = false := fun j => frozen_of_blk k2
  clear k0 k1 k2 hww hb hb1 hb2 g1 g2
  go_loopw [9] (fun iv wr => ∃ i d : Nat, iv = .int .i64 i ∧ i ≤ K.length ∧ asc K sp.tr = asc (K.drop i) sp.tr ∧ wr = w1.drewN d) (fun iv _ => K.length - (intOf iv).toNat)
  case atStart => exact ⟨0, 0, rfl, Nat.zero_le _, rfl, rfl⟩
  case round =>
    obtain ⟨i, d, rfl, hi', has, rfl⟩ := hrel
    by_cases hil : i < K.length
    · have g1 : decide (i < K.length) = true := decide_eq_true hil
      obtain ⟨p, hp⟩ : ∃ p, K[i]? = some p := ⟨_, List.getElem?_eq_getElem hil⟩
      have hdr : K.drop i = p :: K.drop (i + 1) := by
        rw [List.drop_eq_getElem_cons hil, (List.getElem?_eq_some_iff.1 hp).2]
      have HR := H.out.1.only H.out.2.1 (by simp)
      obtain ⟨g, off, hg, hgl, hx⟩ := row_cells (j := i) HR.k (by rw [List.getElem?_map, hp]; rfl)
      have x0 := hx 0 _ rfl
      have x1 := hx 1 _ rfl
      have x2 := hx 2 _ rfl
      simp only [Nat.add_zero] at x0
      subst hg
      rw [hdr, asc] at has
      clear HR hx hp hdr
      by_cases heq : p.1 = sp.tr
      · rw [if_pos heq] at has
        have HS := Lib.hid (says_known (A := P.map (·.1)) (most := ms) (cm := cm) (due := n + wt) has)
        have e1 : p.1.1 = sp.tr.1 := by rw [heq]
        have e2 : p.1.2 = sp.tr.2 := by rw [heq]
        rw [e1] at x0
        rw [e2] at x1
        clear has heq e1 e2
        cases hkb : p.2
        all_goals
          rw [hkb] at x2 HS
          clear hkb
          go_wp2_with fail
          go_quiet (fail)
          go_wp2_with fail
        · refine bodyPost_ret (v := .tuple #[.agg #[.int .i64 ms, .int .i64 wt, .int .i64 ch, .int .i64 n, .int .i64 cm, .slice lp P.length lc, .slice (some ⟨g, off, none⟩) K.length kc], .int .u8 3, .int .i64 0]) (by simp [results, Try.results55, go_sem, *]; try rfl) rfl ?_
          obtain ⟨q1, q2, q3⟩ := HS.out
          obtain ⟨r1, r2⟩ := fin13 H.out.1 H.out.2.1 (b2 := b2) (by have := Hsz.out; omega) (((Only.refl [b2] w1).drewN _).trans (only_set7 _ b2 _ _ _ _ _ _ _))
          exact ⟨lp, lc, P, by rw [q3, q1]; rfl, q2.symm, r1, r2, fun x hx => .inl (by rw [HR0.out]; exact hx)⟩
        · refine bodyPost_ret (v := .tuple #[.agg #[.int .i64 ms, .int .i64 wt, .int .i64 ch, .int .i64 n, .int .i64 cm, .slice lp P.length lc, .slice (some ⟨g, off, none⟩) K.length kc], .int .u8 4, .int .i64 0]) (by simp [results, Try.results55, go_sem, *]; try rfl) rfl ?_
          obtain ⟨q1, q2, q3⟩ := HS.out
          obtain ⟨r1, r2⟩ := fin13 H.out.1 H.out.2.1 (b2 := b2) (by have := Hsz.out; omega) (((Only.refl [b2] w1).drewN _).trans (only_set7 _ b2 _ _ _ _ _ _ _))
          exact ⟨lp, lc, P, by rw [q3, q1]; rfl, q2.symm, r1, r2, fun x hx => .inl (by rw [HR0.out]; exact hx)⟩
      · rw [if_neg heq] at has
        have Has := Lib.hid has
        have hcs : ¬ p.1.1 = sp.tr.1 ∨ (p.1.1 = sp.tr.1 ∧ ¬ p.1.2 = sp.tr.2) := by
          by_cases h1 : p.1.1 = sp.tr.1
          · exact .inr ⟨h1, fun h2 => heq (Prod.ext h1 h2)⟩
          · exact .inl h1
        clear has heq
        rcases hcs with hc1 | ⟨hc1, hc2⟩
        · have c1 : decide (p.1.1 = sp.tr.1) = false := decide_eq_false hc1
          have c2 : (p.1.1 == sp.tr.1) = false := by simp [hc1]
          go_wp2_with fail
          go_quiet (fail)
          go_wp2_with fail
          go_roundw
          case rel => exact ⟨i + 1, d + nq, by go_num, by omega, Has.out, rfl⟩
          case measure => simp [intOf]; omega
        · rw [hc1] at x0
          have c1 : decide (p.1.2 = sp.tr.2) = false := decide_eq_false hc2
          have c2 : (p.1.2 == sp.tr.2) = false := by simp [hc2]
          clear hc1
          go_wp2_with fail
          go_quiet (fail)
          go_wp2_with fail
          go_roundw
          case rel => exact ⟨i + 1, d + nq, by go_num, by omega, Has.out, rfl⟩
          case measure => simp [intOf]; omega
    · have g1 : decide (i < K.length) = false := decide_eq_false hil
      have hnone : asc K sp.tr = none := by rw [has, List.drop_eq_nil_of_le (by omega)]; rfl
      have Hnone := Lib.hid hnone
      clear has hnone
      go_wp2_with fail
      obtain ⟨w2, hw2⟩ : ∃ w2, w2 = w1.drewN d := ⟨_, rfl⟩
      rw [← hw2]
      have o2 : Only [] w1 w2 := by rw [hw2]; exact (Only.refl _ _).drewN _
      have HO2 := Lib.hid o2
      have HB2 := Lib.hid (And.intro o2 (And.intro (o2.blk HB.out.1 (by simp)) (And.intro (o2.blk HB.out.2.1 (by simp)) (o2.blk HB.out.2.2 (by simp)))))
      have HS := Lib.hid (show ∀ W, Only [] w2 W → _ from fun W ho => by
        have k0 := ho.blk HB2.out.2.1 (by simp)
        exact And.intro (blk_cells k0 0 _ rfl) (And.intro (blk_cells k0 1 _ rfl) (And.intro (blk_cells k0 2 _ rfl) (And.intro (blk_cells k0 3 _ rfl) (And.intro (blk_cells k0 4 _ rfl) (And.intro (blk_cells k0 5 _ rfl) (blk_cells k0 6 _ rfl)))))))
      have HC := Lib.hid (fun W (ho : Only [] w2 W) => ref13_Len (((H.out.1.only H.out.2.1 (by simp)).only o2 (by simp)).only ho (by simp)) (Nat.le_trans HN.out.2 (by decide)) (Nat.le_trans HN.out.1 (by decide)) ms wt ch n cm)
      clear d0 d1 d2 d3 d4 d5 d6 s0 s1 f0 f1 f2 f3 f4 f5 f6 z2 hw2 o2
      by_cases hfull : ms ≤ (spansA (P.map (·.1)) : Int)
      · have g3 : decide (ms ≤ (spansA (P.map (·.1)) : Int)) = true := decide_eq_true hfull
        have HY := Lib.hid (says_full (cm := cm) (due := n + wt) Hnone.out hfull)
        go_region_held3 (fun W => W.cell? ⟨b, 0, none⟩ = some (.int .i64 ms) ∧ W.cell? ⟨b, 1, none⟩ = some (.int .i64 wt) ∧ W.cell? ⟨b, 2, none⟩ = some (.int .i64 ch) ∧ W.cell? ⟨b, 3, none⟩ = some (.int .i64 n) ∧ W.cell? ⟨b, 4, none⟩ = some (.int .i64 cm) ∧ W.cell? ⟨b, 5, none⟩ = some (.slice lp P.length lc) ∧ W.cell? ⟨b, 6, none⟩ = some (.slice kp K.length kc)) ((refine HS.out _ ?_; first | assumption | exact Only.refl _ _ | exact (Only.refl _ _).drew))
          ((go_at_call 42; refine (HC.out _ (by first | exact Only.refl _ _ | assumption | exact (Only.refl _ _).drew)).mono ?_; rintro e w5 ⟨rfl, o5⟩; have o6 := Only.trans (S := []) (a := w2) (by first | exact Only.refl _ _ | assumption | exact (Only.refl _ _).drew) o5; clear o5))
        have o65 : Only [] w2 w5 := by assumption
        have bk0 := o65.blk HB2.out.2.1 (by simp)
        have bk1 := o65.blk HB2.out.2.2.1 (by simp)
        have bk2 := o65.blk HB2.out.2.2.2 (by simp)
        have d0 : w5.cell? ⟨b, 0, none⟩ = some (.int .i64 ms) := blk_cells bk0 0 _ rfl
        have d1 : w5.cell? ⟨b, 1, none⟩ = some (.int .i64 wt) := blk_cells bk0 1 _ rfl
        have d2 : w5.cell? ⟨b, 2, none⟩ = some (.int .i64 ch) := blk_cells bk0 2 _ rfl
        have d3 : w5.cell? ⟨b, 3, none⟩ = some (.int .i64 n) := blk_cells bk0 3 _ rfl
        have d4 : w5.cell? ⟨b, 4, none⟩ = some (.int .i64 cm) := blk_cells bk0 4 _ rfl
        have d5 : w5.cell? ⟨b, 5, none⟩ = some (.slice lp P.length lc) := blk_cells bk0 5 _ rfl
        have d6 : w5.cell? ⟨b, 6, none⟩ = some (.slice kp K.length kc) := blk_cells bk0 6 _ rfl
        have f0 : w5.cell? ⟨b2, 0, none⟩ = some (.int .i64 0) := blk_cells bk2 0 _ rfl
        have f1 : w5.cell? ⟨b2, 1, none⟩ = some (.int .i64 0) := blk_cells bk2 1 _ rfl
        have f2 : w5.cell? ⟨b2, 2, none⟩ = some (.int .i64 0) := blk_cells bk2 2 _ rfl
        have f3 : w5.cell? ⟨b2, 3, none⟩ = some (.int .i64 0) := blk_cells bk2 3 _ rfl
        have f4 : w5.cell? ⟨b2, 4, none⟩ = some (.int .i64 0) := blk_cells bk2 4 _ rfl
        have f5 : w5.cell? ⟨b2, 5, none⟩ = some (.slice none 0 0) := blk_cells bk2 5 _ rfl
        have f6 : w5.cell? ⟨b2, 6, none⟩ = some (.slice none 0 0) := blk_cells bk2 6 _ rfl
        have z2 : ∀ j, w5.frozen? ⟨b2, j, none⟩ = false := fun j => frozen_of_blk bk2
        have m0 : b < w5.heap.size := lt_of_blk bk0
        have m2 : b2 < w5.heap.size := lt_of_blk bk2
        clear bk0 bk1 bk2
        go_wp2_with fail
        refine bodyPost_ret (v := .tuple #[.agg #[.int .i64 ms, .int .i64 wt, .int .i64 ch, .int .i64 n, .int .i64 cm, .slice lp P.length lc, .slice kp K.length kc], .int .u8 2, .int .i64 0]) (by simp [results, Try.results55, go_sem, *]; try rfl) rfl ?_
        obtain ⟨q1, q2, q3⟩ := HY.out
        obtain ⟨r1, r2⟩ := fin13 H.out.1 (H.out.2.1.trans (HO2.out.trans o65)) (b2 := b2) (by have := Hsz.out; omega) (only_set7 _ b2 _ _ _ _ _ _ _)
        exact ⟨lp, lc, P, by rw [q3, q1], q2.symm, r1, r2, fun x hx => .inl (by rw [HR0.out]; exact hx)⟩
      · have g3 : decide (ms ≤ (spansA (P.map (·.1)) : Int)) = false := decide_eq_false hfull
        have HY := Lib.hid (says_take (cm := cm) (due := n + wt) Hnone.out hfull)
        go_region_held3 (fun W => W.cell? ⟨b, 0, none⟩ = some (.int .i64 ms) ∧ W.cell? ⟨b, 1, none⟩ = some (.int .i64 wt) ∧ W.cell? ⟨b, 2, none⟩ = some (.int .i64 ch) ∧ W.cell? ⟨b, 3, none⟩ = some (.int .i64 n) ∧ W.cell? ⟨b, 4, none⟩ = some (.int .i64 cm) ∧ W.cell? ⟨b, 5, none⟩ = some (.slice lp P.length lc) ∧ W.cell? ⟨b, 6, none⟩ = some (.slice kp K.length kc)) ((refine HS.out _ ?_; first | assumption | exact Only.refl _ _ | exact (Only.refl _ _).drew))
          ((go_at_call 42; refine (HC.out _ (by first | exact Only.refl _ _ | assumption | exact (Only.refl _ _).drew)).mono ?_; rintro e w5 ⟨rfl, o5⟩; have o6 := Only.trans (S := []) (a := w2) (by first | exact Only.refl _ _ | assumption | exact (Only.refl _ _).drew) o5; clear o5))
        have o65 : Only [] w2 w5 := by assumption
        have bk0 := o65.blk HB2.out.2.1 (by simp)
        have bk1 := o65.blk HB2.out.2.2.1 (by simp)
        have bk2 := o65.blk HB2.out.2.2.2 (by simp)

        have l0 : b < w5.heap.size := lt_of_blk bk0
        have l1 : b1 < w5.heap.size := lt_of_blk bk1
        have l2 : b2 < w5.heap.size := lt_of_blk bk2
        have HB5 := Lib.hid (And.intro bk0 (And.intro bk1 bk2))
        have HO5 := Lib.hid (H.out.2.1.trans (HO2.out.trans o65))
        have HR5 := Lib.hid (H.out.1.only HO5.out (by simp))
        clear bk0 bk1 bk2 o65 o6 HB2 HO2
        go_wp2_with fail
        go_loopw [10, 11, 12] (fun lv fv iv wr => ∃ (i : Nat) (Q : List (Ab × Value)) (fb : Bool), iv = .int .i64 i ∧ i ≤ P.length ∧ fv = .bool fb ∧ fb = decide (sp.tr ∈ ((P.take i).map (·.1)).map (·.tr)) ∧ LQ w5.heap.size wr Q lv ∧ (∀ q ∈ Q, ∀ x ∈ blockOf q.2, x ∈ R0 ∨ w5.heap.size ≤ x) ∧ Q.map (·.1) = ((P.take i).map (·.1)).map (mif sp) ∧ Only [] w5 wr) (fun _ _ iv _ => P.length - (intOf iv).toNat)
        case atStart => exact ⟨0, [], false, rfl, Nat.zero_le _, rfl, rfl, LQ.nil _ _, by simp, rfl, Only.refl _ _⟩
        case round =>
          obtain ⟨i, Q, fb, rfl, hi, rfl, hfb, hQ, hQb, hQP, ow⟩ := hrel
          have hQl : Q.length = (P.take i).length := by
            have h1 := congrArg List.length hQP
            simpa using h1
          obtain ⟨lq, lc', hlv⟩ := hQ.l.form
          rw [List.length_map] at hlv
          subst hlv
          have hQ5 : Q.length ≤ 5000 := by have := HN.out.1; rw [hQl, List.length_take]; omega
          have l0' : b < wr.heap.size := ow.lt l0
          have l1' : b1 < wr.heap.size := ow.lt l1
          have l2' : b2 < wr.heap.size := ow.lt l2
          have k0 := ow.blk HB5.out.1 (by simp)
          have k1 := ow.blk HB5.out.2.1 (by simp)
          have k2 := ow.blk HB5.out.2.2 (by simp)
          by_cases hil : i < P.length
          · have g4 : decide (i < P.length) = true := decide_eq_true hil
            obtain ⟨p, hp⟩ : ∃ p, P[i]? = some p := ⟨_, List.getElem?_eq_getElem hil⟩
            have htk : (P.take (i + 1)).map (·.1) = (P.take i).map (·.1) ++ [p.1] := by
              rw [List.take_add_one, hp, List.map_append]; rfl
            have HR := HR5.out.only ow (by simp)
            obtain ⟨g, off, hg, hgl, hx⟩ := row_cells (j := i) HR.l (by rw [List.getElem?_map, hp]; rfl)
            have hps := HR.s p (List.mem_of_getElem? hp)
            have hpl := spans_one hp
            have hps5 : p.1.sps.length ≤ 5000 := by have := HN.out.2; omega
            have hprb : ∀ x ∈ blockOf p.2, x ∈ R0 := HRP.out p (List.mem_of_getElem? hp)
            have hpold : ∀ x ∈ blockOf p.2, x < b := fun x hx => by have := Hlt.out x (hprb x hx); have := Hsz.out; omega
            obtain ⟨sa, sc, hsv⟩ := hps.form
            rw [List.length_map] at hsv
            rw [hsv] at hps hpold hprb
            have x0 := hx 0 _ rfl
            have x1 := hx 1 _ rfl
            have x2 := hx 2 _ rfl
            have x3 := hx 3 _ rfl
            have x4 := hx 4 _ rfl
            simp only [Nat.add_zero] at x0
            rw [hsv] at x4
            have d5 : wr.cell? ⟨b, 5, none⟩ = some (.slice lp P.length lc) := blk_cells k0 5 _ rfl
            have s0 : wr.cell? ⟨b1, 0, none⟩ = some (.int .u64 sp.tr.1) := blk_cells k1 0 _ rfl
            have s1 : wr.cell? ⟨b1, 1, none⟩ = some (.int .u64 sp.tr.2) := blk_cells k1 1 _ rfl

            subst hg
            by_cases heq : p.1.tr = sp.tr
            · have e1 : p.1.tr.1 = sp.tr.1 := by rw [heq]
              have e2 : p.1.tr.2 = sp.tr.2 := by rw [heq]
              rw [e1] at x2
              rw [e2] at x3
              -- the row, copied, with one more
              obtain ⟨wa, hwa⟩ : ∃ wa, wa = wr.alloc (.cells #[.int .i64 p.1.due, .int .i64 p.1.no, .int .u64 sp.tr.1, .int .u64 sp.tr.2, .slice sa p.1.sps.length sc] 133) := ⟨_, rfl⟩
              have oa : Only [] wr wa := by rw [hwa]; exact (Only.refl _ _).alloc _
              have ka : wa.heap[wr.heap.size]? = some (.cells #[.int .i64 p.1.due, .int .i64 p.1.no, .int .u64 sp.tr.1, .int .u64 sp.tr.2, .slice sa p.1.sps.length sc] 133 (0, 0)) := by rw [hwa]; exact heap_alloc_new wr _
              obtain ⟨ga, ca, w3, hap1, hs3, o3, hb3⟩ := span_copy (hps.only oa (by simp)) (by omega)
              obtain ⟨gb, ob, cb, w4, hap2, hs4, o4, hg4⟩ := span_one hs3 (by omega) sp
              have oas := oa.size
              have o3s := o3.size
              have o4s := o4.size
              have wal := lt_of_blk ka
              have kne : ∀ x ∈ blockOf (.slice ga p.1.sps.length ca), x ≠ wr.heap.size := fun x hx he => by have := hb3 x hx; omega
              have ka3 := o3.blk ka (by simp)
              have ka4 := o4.blk ka3 (fun hm => kne _ hm rfl)
              have gbnew : wa.heap.size ≤ gb := by
                rcases hg4 with h | h
                · exact hb3 _ h
                · omega
              have o04 : Only [] wr w4 := (oa.trans o3).trans' o4 (fun x hx hlt => by have := hb3 x hx; omega)
              obtain ⟨w5', hw5⟩ : ∃ w5', w5' = w4.setCell ⟨wr.heap.size, 4, none⟩ (.slice (some ⟨gb, ob, none⟩) (p.1.sps.length + 1) cb) := ⟨_, rfl⟩
              have o5 : Only [wr.heap.size] w4 w5' := by rw [hw5]; exact (Only.refl _ _).setCell (.inl (by simp)) _
              have o05 : Only [] wr w5' := o04.trans' o5 (fun x hx hlt => by rw [List.mem_singleton] at hx; omega)
              have hs5 := hs4.only o5 (by simp only [blockOf, List.mem_singleton]; intro x hx hm; omega)
              have hsz5 : w5'.heap.size = w4.heap.size := by rw [hw5]; simp
              have hQ5' : LQ w5.heap.size w5' Q (.slice lq Q.length lc') := hQ.over o05 (by simp)
              have hdis : ∀ x ∈ blockOf (.slice (some ⟨gb, ob, none⟩) (p.1.sps.length + 1) cb), x ∉ blockOf (.slice lq Q.length lc') := by
                intro x hx hm
                simp only [blockOf, List.mem_singleton] at hx
                have := hQ.l.lt x hm
                omega
              obtain ⟨gc, oc, cc, w6, hap3, hQ6, o6⟩ := trace_push hQ5' (Nat.le_trans ow.size o05.size) (by omega) (p.1.more sp) hs5 hdis
              have hap3' : (Builtin.append_ #[85, 85] 85 #[.slice lq Q.length lc', .slice (some ⟨w4.heap.size, 0, none⟩) 1 1]).run Try.prog ((w4.setCell ⟨wr.heap.size, 4, none⟩ (.slice (some ⟨gb, ob, none⟩) (p.1.sps.length + 1) cb)).alloc (.cells #[.int .i64 p.1.due, .int .i64 p.1.no, .int .u64 sp.tr.1, .int .u64 sp.tr.2, .slice (some ⟨gb, ob, none⟩) (p.1.sps.length + 1) cb] 133)) = .ok (.slice (some ⟨gc, oc, none⟩) (Q.length + 1) cc) w6 := by
                rw [← hsz5, ← hw5, ← e1, ← e2]; exact hap3
              have a4 : ∀ (j : Nat) (v : Value), (#[.int .i64 p.1.due, .int .i64 p.1.no, .int .u64 sp.tr.1, .int .u64 sp.tr.2, .slice sa p.1.sps.length sc] : Array Value)[j]? = some v → w4.cell? ⟨wr.heap.size, j, none⟩ = some v := blk_cells ka4
              have a40 := a4 0 _ rfl
              have a41 := a4 1 _ rfl
              have a42 := a4 2 _ rfl
              have a43 := a4 3 _ rfl
              have a44 := a4 4 _ rfl
              have az4 : ∀ j, w4.frozen? ⟨wr.heap.size, j, none⟩ = false := fun j => frozen_of_blk ka4
              have al4 : wr.heap.size < w4.heap.size := by omega
              have ks3 := (oa.trans o3).blk k1 (by simp)
              have y0 : w3.cell? ⟨b1, 0, none⟩ = some (.int .u64 sp.tr.1) := blk_cells ks3 0 _ rfl
              have y1 : w3.cell? ⟨b1, 1, none⟩ = some (.int .u64 sp.tr.2) := blk_cells ks3 1 _ rfl
              have y2 : w3.cell? ⟨b1, 2, none⟩ = some (.int .u64 sp.id) := blk_cells ks3 2 _ rfl
              have y3 : w3.cell? ⟨b1, 3, none⟩ = some (.int .u64 sp.par) := blk_cells ks3 3 _ rfl
              have y4 : w3.cell? ⟨b1, 4, none⟩ = some (.string sp.nm) := blk_cells ks3 4 _ rfl
              have y5 : w3.cell? ⟨b1, 5, none⟩ = some (.int .i64 sp.st) := blk_cells ks3 5 _ rfl
              have y6 : w3.cell? ⟨b1, 6, none⟩ = some (.int .i64 sp.en) := blk_cells ks3 6 _ rfl
              have y7 : w3.cell? ⟨b1, 7, none⟩ = some (.bool sp.bad) := blk_cells ks3 7 _ rfl
              have y8 : w3.cell? ⟨b1, 8, none⟩ = some (.slice none 0 0) := blk_cells ks3 8 _ rfl
              have y9 : w3.cell? ⟨b1, 9, none⟩ = some (.int .u64 sp.rv) := blk_cells ks3 9 _ rfl

              have yl3 : b1 < w3.heap.size := by omega
              have al3 : wr.heap.size < w3.heap.size := by omega
              have hpush := Lib.hid (And.intro hQ6 (And.intro (show (Q ++ [(p.1.more sp, Value.slice (some ⟨gb, ob, none⟩) (p.1.sps.length + 1) cb)]).map (·.1) = ((P.take (i + 1)).map (·.1)).map (mif sp) by
                rw [htk, List.map_append, List.map_append, hQP, List.map_cons, List.map_nil, List.map_cons, List.map_nil, mif, if_pos heq])
                ((ow.trans o05).trans' o6 (fun x hx hlt => by have := hQ.new x hx; omega))))
              have hQb2 := Lib.hid (show ∀ q ∈ Q ++ [(p.1.more sp, Value.slice (some ⟨gb, ob, none⟩) (p.1.sps.length + 1) cb)], ∀ x ∈ blockOf q.2, x ∈ R0 ∨ w5.heap.size ≤ x from fun q hq x hx => by
                rcases List.mem_append.1 hq with hq | hq
                · exact hQb q hq x hx
                · rw [List.mem_singleton.1 hq] at hx
                  simp only [blockOf, List.mem_singleton] at hx
                  have := ow.size
                  exact .inr (by omega))
              have hfb2 := Lib.hid (show true = decide (sp.tr ∈ ((P.take (i + 1)).map (·.1)).map (·.tr)) by
                symm; rw [decide_eq_true_eq, htk, List.map_append, List.mem_append]; exact .inr (by simp [heq]))
              rw [hwa] at hap1
              unfold Sp.arr at hap2
              clear hx hp htk HR hps hpold hprb hsv e1 e2 heq hQ hQP hfb oa ka o3 o4 hs3 hs4 hb3 hg4 ka3 ka4 o04 o5 o05 hs5 hsz5 hQ5' hdis hap3 hQ6 o6 a4 ks3 kne gbnew hw5 oas o3s o4s wal k0 k1 k2 ow hwa hpl hQl hQb
              go_wp2_with fail
              go_roundw
              case rel => exact ⟨i + 1, _, true, by go_num, by omega, rfl, hfb2.out, by simpa using hpush.out.1, hQb2.out, hpush.out.2.1, hpush.out.2.2⟩
              case measure => simp [intOf]; omega
            · obtain ⟨wa, hwa⟩ : ∃ wa, wa = wr.alloc (.cells #[.int .i64 p.1.due, .int .i64 p.1.no, .int .u64 p.1.tr.1, .int .u64 p.1.tr.2, .slice sa p.1.sps.length sc] 133) := ⟨_, rfl⟩
              have oa : Only [] wr wa := by rw [hwa]; exact (Only.refl _ _).alloc _
              have hsz5 : wa.heap.size = wr.heap.size + 1 := by rw [hwa]; simp
              have hdis : ∀ x ∈ blockOf (.slice sa p.1.sps.length sc), x ∉ blockOf (.slice lq Q.length lc') := by
                intro x hx hm
                have := hQ.new x hm
                have := hpold x hx
                omega
              obtain ⟨gc, oc, cc, w6, hap3, hQ6, o6⟩ := trace_push (hQ.over oa (by simp)) (Nat.le_trans ow.size oa.size) (by omega) p.1 (hps.only oa (by simp)) hdis
              rw [hsz5, hwa] at hap3
              have hpush := Lib.hid (And.intro hQ6 (And.intro (show (Q ++ [(p.1, Value.slice sa p.1.sps.length sc)]).map (·.1) = ((P.take (i + 1)).map (·.1)).map (mif sp) by
                rw [htk, List.map_append, List.map_append, hQP, List.map_cons, List.map_nil, List.map_cons, List.map_nil, mif, if_neg heq])
                ((ow.trans oa).trans' o6 (fun x hx hlt => by have := hQ.new x hx; omega))))
              have hQb2 := Lib.hid (show ∀ q ∈ Q ++ [(p.1, Value.slice sa p.1.sps.length sc)], ∀ x ∈ blockOf q.2, x ∈ R0 ∨ w5.heap.size ≤ x from fun q hq x hx => by
                rcases List.mem_append.1 hq with hq | hq
                · exact hQb q hq x hx
                · rw [List.mem_singleton.1 hq] at hx
                  exact .inl (hprb x hx))
              have hfb2 := Lib.hid (show fb = decide (sp.tr ∈ ((P.take (i + 1)).map (·.1)).map (·.tr)) by
                rw [hfb]
                refine decide_eq_decide.2 ?_
                rw [htk, List.map_append, List.mem_append]
                exact ⟨.inl, fun h => h.resolve_right (fun h2 => heq (List.mem_singleton.1 h2).symm)⟩)
              have hcs : ¬ p.1.tr.1 = sp.tr.1 ∨ (p.1.tr.1 = sp.tr.1 ∧ ¬ p.1.tr.2 = sp.tr.2) := by
                by_cases h1 : p.1.tr.1 = sp.tr.1
                · exact .inr ⟨h1, fun h2 => heq (Prod.ext h1 h2)⟩
                · exact .inl h1
              clear hx hp htk HR hps hpold hprb hsv heq hQ hQP hfb oa o6 hdis hQ6 k0 k1 k2 ow hwa hpl hQl hQb hsz5
              rcases hcs with hc1 | ⟨hc1, hc2⟩
              · have c1 : decide (p.1.tr.1 = sp.tr.1) = false := decide_eq_false hc1
                have c2 : (p.1.tr.1 == sp.tr.1) = false := by simp [hc1]
                go_wp2_with fail
                go_roundw
                case rel => exact ⟨i + 1, _, fb, by go_num, by omega, rfl, hfb2.out, by simpa using hpush.out.1, hQb2.out, hpush.out.2.1, hpush.out.2.2⟩
                case measure => simp [intOf]; omega
              · rw [hc1] at x2 hap3
                have c1 : decide (p.1.tr.2 = sp.tr.2) = false := decide_eq_false hc2
                have c2 : (p.1.tr.2 == sp.tr.2) = false := by simp [hc2]
                clear hc1
                go_wp2_with fail
                go_roundw
                case rel => exact ⟨i + 1, _, fb, by go_num, by omega, rfl, hfb2.out, by simpa using hpush.out.1, hQb2.out, hpush.out.2.1, hpush.out.2.2⟩
                case measure => simp [intOf]; omega
          · have g4 : decide (i < P.length) = false := decide_eq_false hil
            have hie : i = P.length := by omega
            rw [hie, List.take_length] at hfb hQP
            have HQb0 := Lib.hid hQb
            have Hnr := Lib.hid ow.size
            have hbl : ∀ q ∈ Q, ∀ x ∈ blockOf q.2, x ≠ b ∧ x ≠ b2 := fun q hq x hx => by
              have h0 := Hsz.out
              rcases hQb q hq x hx with h1 | h1
              · have := Hlt.out x h1; omega
              · omega
            have hbv : ∀ x ∈ blockOf (.slice lq Q.length lc'), x ≠ b ∧ x ≠ b2 := fun x hx => by
              have := hQ.new x hx
              omega
            cases fb
            · -- a trace of its own
              have hnf : sp.tr ∉ (P.map (·.1)).map (·.tr) := of_decide_eq_false hfb.symm
              have HT := Lib.hid (take_new (came := cm) (due := n + wt) hnf)
              obtain ⟨wa, hwa⟩ : ∃ wa, wa = wr.alloc (.cells #[.int .u64 sp.tr.1, .int .u64 sp.tr.2, .int .u64 sp.id, .int .u64 sp.par, .string sp.nm, .int .i64 sp.st, .int .i64 sp.en, .bool sp.bad, .slice none 0 0, .int .u64 sp.rv] 65) := ⟨_, rfl⟩
              have oa : Only [] wr wa := by rw [hwa]; exact (Only.refl _ _).alloc _
              have hsz5 : wa.heap.size = wr.heap.size + 1 := by rw [hwa]; simp
              have hss : SliceIs wa 65 10 ([sp].map Sp.cells) (.slice (some ⟨wr.heap.size, 0, none⟩) 1 1) := by rw [hwa]; exact one_new (cs := #[.int .u64 sp.tr.1, .int .u64 sp.tr.2, .int .u64 sp.id, .int .u64 sp.par, .string sp.nm, .int .i64 sp.st, .int .i64 sp.en, .bool sp.bad, .slice none 0 0, .int .u64 sp.rv]) rfl
              have hdis : ∀ x ∈ blockOf (.slice (some ⟨wr.heap.size, 0, none⟩) 1 1), x ∉ blockOf (.slice lq Q.length lc') := by
                intro x hx hm
                simp only [blockOf, List.mem_singleton] at hx
                have := hQ.l.lt x hm
                omega
              obtain ⟨gc, oc, cc, w6, hap3, hQ6, o6⟩ := trace_push (hQ.over oa (by simp)) (Nat.le_trans ow.size oa.size) (by omega) ⟨cm, n + wt, sp.tr, [sp]⟩ hss hdis
              rw [hsz5, hwa] at hap3
              have o06 : Only [] w5 w6 := (ow.trans oa).trans' o6 (fun x hx hlt => by have := hQ.new x hx; omega)
              have wr1 : IntKind.i64.wrap (n + wt) = n + wt := IntWalk.i64_in _ (by omega)
              have wr2 : IntKind.i64.wrap (cm + 1) = cm + 1 := IntWalk.i64_in _ (by omega)
              have j0 := o06.blk HB5.out.1 (by simp)
              have j2 := o06.blk HB5.out.2.2 (by simp)
              have m0 : b < w6.heap.size := o06.lt l0
              have m2 : b2 < w6.heap.size := o06.lt l2
              have n02 : ¬ b = b2 := by have := Hsz.out; omega
              have n20 : ¬ b2 = b := fun h => n02 h.symm
              have e0 : w6.cell? ⟨b, 0, none⟩ = some (.int .i64 ms) := blk_cells j0 0 _ rfl
              have e1 : w6.cell? ⟨b, 1, none⟩ = some (.int .i64 wt) := blk_cells j0 1 _ rfl
              have e2 : w6.cell? ⟨b, 2, none⟩ = some (.int .i64 ch) := blk_cells j0 2 _ rfl
              have e3 : w6.cell? ⟨b, 3, none⟩ = some (.int .i64 n) := blk_cells j0 3 _ rfl
              have e4 : w6.cell? ⟨b, 4, none⟩ = some (.int .i64 cm) := blk_cells j0 4 _ rfl
              have e5 : w6.cell? ⟨b, 5, none⟩ = some (.slice lp P.length lc) := blk_cells j0 5 _ rfl
              have e6 : w6.cell? ⟨b, 6, none⟩ = some (.slice kp K.length kc) := blk_cells j0 6 _ rfl
              have d1 : wr.cell? ⟨b, 1, none⟩ = some (.int .i64 wt) := blk_cells k0 1 _ rfl
              have d4 : wr.cell? ⟨b, 4, none⟩ = some (.int .i64 cm) := blk_cells k0 4 _ rfl
              have d5 : wr.cell? ⟨b, 5, none⟩ = some (.slice lp P.length lc) := blk_cells k0 5 _ rfl
              have s0 : wr.cell? ⟨b1, 0, none⟩ = some (.int .u64 sp.tr.1) := blk_cells k1 0 _ rfl
              have s1 : wr.cell? ⟨b1, 1, none⟩ = some (.int .u64 sp.tr.2) := blk_cells k1 1 _ rfl
              have s2 : wr.cell? ⟨b1, 2, none⟩ = some (.int .u64 sp.id) := blk_cells k1 2 _ rfl
              have s3 : wr.cell? ⟨b1, 3, none⟩ = some (.int .u64 sp.par) := blk_cells k1 3 _ rfl
              have s4 : wr.cell? ⟨b1, 4, none⟩ = some (.string sp.nm) := blk_cells k1 4 _ rfl
              have s5 : wr.cell? ⟨b1, 5, none⟩ = some (.int .i64 sp.st) := blk_cells k1 5 _ rfl
              have s6 : wr.cell? ⟨b1, 6, none⟩ = some (.int .i64 sp.en) := blk_cells k1 6 _ rfl
              have s7 : wr.cell? ⟨b1, 7, none⟩ = some (.bool sp.bad) := blk_cells k1 7 _ rfl
              have s8 : wr.cell? ⟨b1, 8, none⟩ = some (.slice none 0 0) := blk_cells k1 8 _ rfl
              have s9 : wr.cell? ⟨b1, 9, none⟩ = some (.int .u64 sp.rv) := blk_cells k1 9 _ rfl
              have f0 : w6.cell? ⟨b2, 0, none⟩ = some (.int .i64 0) := blk_cells j2 0 _ rfl
              have f1 : w6.cell? ⟨b2, 1, none⟩ = some (.int .i64 0) := blk_cells j2 1 _ rfl
              have f2 : w6.cell? ⟨b2, 2, none⟩ = some (.int .i64 0) := blk_cells j2 2 _ rfl
              have f3 : w6.cell? ⟨b2, 3, none⟩ = some (.int .i64 0) := blk_cells j2 3 _ rfl
              have f4 : w6.cell? ⟨b2, 4, none⟩ = some (.int .i64 0) := blk_cells j2 4 _ rfl
              have f5 : w6.cell? ⟨b2, 5, none⟩ = some (.slice none 0 0) := blk_cells j2 5 _ rfl
              have f6 : w6.cell? ⟨b2, 6, none⟩ = some (.slice none 0 0) := blk_cells j2 6 _ rfl
              have z0 : ∀ j, w6.frozen? ⟨b, j, none⟩ = false := fun j => frozen_of_blk j0
              have z2 : ∀ j, w6.frozen? ⟨b2, j, none⟩ = false := fun j => frozen_of_blk j2
              have HQ6 := Lib.hid (And.intro hQ6 (And.intro o06 (And.intro hQP (fun x (hx : x ∈ blockOf (.slice (some ⟨gc, oc, none⟩) (Q.length + 1) cc)) => show x ≠ b ∧ x ≠ b2 by have := hQ6.new x hx; omega))))
              have HQb := Lib.hid (show ∀ q ∈ Q ++ [((⟨cm, n + wt, sp.tr, [sp]⟩ : Ab), Value.slice (some ⟨wr.heap.size, 0, none⟩) 1 1)], ∀ x ∈ blockOf q.2, x ≠ b ∧ x ≠ b2 from fun q hq x hx => by
                rcases List.mem_append.1 hq with hq | hq
                · exact hbl q hq x hx
                · rw [List.mem_singleton.1 hq] at hx
                  simp only [blockOf, List.mem_singleton] at hx
                  omega)
              have HL := Lib.hid (show (Q ++ [((⟨cm, n + wt, sp.tr, [sp]⟩ : Ab), Value.slice (some ⟨wr.heap.size, 0, none⟩) 1 1)]).length = Q.length + 1 by simp)
              clear hQ hQP hfb oa o6 hdis hQ6 k0 k1 k2 ow hwa hQl hQb hsz5 hss o06 j0 j2 hbl hbv hnf hie
              go_wp2_with fail
              refine bodyPost_ret (v := .tuple #[.agg #[.int .i64 ms, .int .i64 wt, .int .i64 ch, .int .i64 n, .int .i64 (cm + 1), .slice (some ⟨gc, oc, none⟩) (Q.length + 1) cc, .slice kp K.length kc], .int .u8 1, .int .i64 0]) (by simp [results, Try.results55, go_sem, *]; try rfl) rfl ?_
              obtain ⟨q1, q2, q3⟩ := HY.out
              obtain ⟨q4, q5⟩ := HT.out
              have oW := only_fin2 w6 b b2 (.int .i64 (cm + 1)) (.slice (some ⟨gc, oc, none⟩) (Q.length + 1) cc) (.int .i64 ms) (.int .i64 wt) (.int .i64 ch) (.int .i64 n) (.int .i64 (cm + 1)) (.slice (some ⟨gc, oc, none⟩) (Q.length + 1) cc) (.slice kp K.length kc)
              refine ⟨some ⟨gc, oc, none⟩, cc, Q ++ [(⟨cm, n + wt, sp.tr, [sp]⟩, .slice (some ⟨wr.heap.size, 0, none⟩) 1 1)], by rw [q3, q5, q1, HL.out], ?_, ⟨?_, ?_, ?_⟩, ?_, ?_⟩
              · rw [q2, q4, ← HQ6.out.2.2.1, List.map_append]; rfl
              · rw [HL.out]
                exact HQ6.out.1.l.only oW (fun x hx hm => by have := HQ6.out.2.2.2 x hx; simp only [List.mem_cons, List.not_mem_nil, or_false] at hm; omega)
              · intro q hq
                exact (HQ6.out.1.s q hq).1.only oW (fun x hx hm => by have := HQb.out q hq x hx; simp only [List.mem_cons, List.not_mem_nil, or_false] at hm; omega)
              · exact (HR5.out.k.only HQ6.out.2.1 (by simp)).only oW (fun x hx hm => by have := Hlt.out x (HRK.out x hx); have := Hsz.out; simp only [List.mem_cons, List.not_mem_nil, or_false] at hm; omega)
              · exact (HO5.out.trans HQ6.out.2.1).trans' oW (fun x hx hlt => by have := Hsz.out; simp only [List.mem_cons, List.not_mem_nil, or_false] at hx; omega)
              · intro x hx
                rw [HL.out] at hx
                have h5 := HO5.out.size
                rcases mem_rbl.1 hx with h | h | ⟨q, hq, h⟩
                · exact .inr (Nat.le_trans h5 (HQ6.out.1.new x h))
                · exact .inl (HRK.out x h)
                · rcases List.mem_append.1 hq with hq | hq
                  · exact (HQb0.out q hq x h).imp id (fun h => Nat.le_trans h5 h)
                  · rw [List.mem_singleton.1 hq] at h
                    simp only [blockOf, List.mem_singleton] at h
                    exact .inr (by have := Hnr.out; omega)
            · have hnf : sp.tr ∈ (P.map (·.1)).map (·.tr) := of_decide_eq_true hfb.symm
              have HT := Lib.hid (take_found (came := cm) (due := n + wt) hnf)
              have n02 : ¬ b = b2 := by have := Hsz.out; omega
              have n20 : ¬ b2 = b := fun h => n02 h.symm
              have d0 : wr.cell? ⟨b, 0, none⟩ = some (.int .i64 ms) := blk_cells k0 0 _ rfl
              have d1 : wr.cell? ⟨b, 1, none⟩ = some (.int .i64 wt) := blk_cells k0 1 _ rfl
              have d2 : wr.cell? ⟨b, 2, none⟩ = some (.int .i64 ch) := blk_cells k0 2 _ rfl
              have d3 : wr.cell? ⟨b, 3, none⟩ = some (.int .i64 n) := blk_cells k0 3 _ rfl
              have d4 : wr.cell? ⟨b, 4, none⟩ = some (.int .i64 cm) := blk_cells k0 4 _ rfl
              have d5 : wr.cell? ⟨b, 5, none⟩ = some (.slice lp P.length lc) := blk_cells k0 5 _ rfl
              have d6 : wr.cell? ⟨b, 6, none⟩ = some (.slice kp K.length kc) := blk_cells k0 6 _ rfl
              have f0 : wr.cell? ⟨b2, 0, none⟩ = some (.int .i64 0) := blk_cells k2 0 _ rfl
              have f1 : wr.cell? ⟨b2, 1, none⟩ = some (.int .i64 0) := blk_cells k2 1 _ rfl
              have f2 : wr.cell? ⟨b2, 2, none⟩ = some (.int .i64 0) := blk_cells k2 2 _ rfl
              have f3 : wr.cell? ⟨b2, 3, none⟩ = some (.int .i64 0) := blk_cells k2 3 _ rfl
              have f4 : wr.cell? ⟨b2, 4, none⟩ = some (.int .i64 0) := blk_cells k2 4 _ rfl
              have f5 : wr.cell? ⟨b2, 5, none⟩ = some (.slice none 0 0) := blk_cells k2 5 _ rfl
              have f6 : wr.cell? ⟨b2, 6, none⟩ = some (.slice none 0 0) := blk_cells k2 6 _ rfl
              have z0 : ∀ j, wr.frozen? ⟨b, j, none⟩ = false := fun j => frozen_of_blk k0
              have z2 : ∀ j, wr.frozen? ⟨b2, j, none⟩ = false := fun j => frozen_of_blk k2
              have HQ6 := Lib.hid (And.intro hQ (And.intro ow (And.intro hQP (And.intro hbl hbv))))
              clear hQ hQP hfb k0 k1 k2 ow hQl hQb hbl hbv hnf hie
              go_wp2_with fail
              refine bodyPost_ret (v := .tuple #[.agg #[.int .i64 ms, .int .i64 wt, .int .i64 ch, .int .i64 n, .int .i64 cm, .slice lq Q.length lc', .slice kp K.length kc], .int .u8 1, .int .i64 0]) (by simp [results, Try.results55, go_sem, *]; try rfl) rfl ?_
              obtain ⟨q1, q2, q3⟩ := HY.out
              obtain ⟨q4, q5⟩ := HT.out
              have oW := only_fin1 wr b b2 (.slice lq Q.length lc') (.int .i64 ms) (.int .i64 wt) (.int .i64 ch) (.int .i64 n) (.int .i64 cm) (.slice lq Q.length lc') (.slice kp K.length kc)
              refine ⟨lq, lc', Q, by rw [q3, q5, q1], ?_, ⟨?_, ?_, ?_⟩, ?_, ?_⟩
              · rw [q2, q4, ← HQ6.out.2.2.1]
              · exact HQ6.out.1.l.only oW (fun x hx hm => by have := HQ6.out.2.2.2.2 x hx; simp only [List.mem_cons, List.not_mem_nil, or_false] at hm; omega)
              · intro q hq
                exact (HQ6.out.1.s q hq).1.only oW (fun x hx hm => by have := HQ6.out.2.2.2.1 q hq x hx; simp only [List.mem_cons, List.not_mem_nil, or_false] at hm; omega)
              · exact (HR5.out.k.only HQ6.out.2.1 (by simp)).only oW (fun x hx hm => by have := Hlt.out x (HRK.out x hx); have := Hsz.out; simp only [List.mem_cons, List.not_mem_nil, or_false] at hm; omega)
              · exact (HO5.out.trans HQ6.out.2.1).trans' oW (fun x hx hlt => by have := Hsz.out; simp only [List.mem_cons, List.not_mem_nil, or_false] at hx; omega)
              · intro x hx
                have h5 := HO5.out.size
                rcases mem_rbl.1 hx with h | h | ⟨q, hq, h⟩
                · exact .inr (Nat.le_trans h5 (HQ6.out.1.new x h))
                · exact .inl (HRK.out x h)
                · exact (HQb0.out q hq x h).imp id (fun h => Nat.le_trans h5 h)
end
end Go.Proofs.Ytcppnmogdmpdbaa
