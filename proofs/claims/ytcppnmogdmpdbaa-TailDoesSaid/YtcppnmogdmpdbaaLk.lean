/- TailDoes, walked: the buffer and the document's answer, deed by deed. -/
import Derived.Test.YtcppnmogdmpdbaaLj
import Derived.Test.YtcppnmogdmpdbaaKq
import Derived.Deep.RegionHeld3
set_option linter.unusedVariables false
set_option linter.unusedSimpArgs false
namespace Go.Proofs.Ytcppnmogdmpdbaa
open Go.RowKit Go.Mk Go.Hp
attribute [-go_sem] Builtin.append_

theorem both_setBox {w w6 w7 : World} {X : List Nat} {tp br : Nat} {ms wt ch nw cm : Int} {K : List Dec} {P : List (Ab × Value)} {lv kv : Value} (h : Both w X w6 tp ms wt ch nw cm K P lv kv) (o : Only [br] w6 w7) (h1 : br ∈ X) (h2 : w.heap.size ≤ br) (h3 : br ∉ rbl P lv kv) : Both w X w7 tp ms wt ch nw cm K P lv kv :=
  ⟨h.k.only o (by intro x hx; rw [List.mem_singleton.1 hx]; exact h1) (by intro x hx; rw [List.mem_singleton.1 hx]; exact h2), h.r.only o (fun x hx hm => by rw [List.mem_singleton] at hm; rw [hm] at hx; exact h3 hx), h.x⟩
theorem Both.only {w w6 w7 : World} {X : List Nat} {tp : Nat} {ms wt ch nw cm : Int} {K : List Dec} {P : List (Ab × Value)} {lv kv : Value} (h : Both w X w6 tp ms wt ch nw cm K P lv kv) (o : Only [] w6 w7) : Both w X w7 tp ms wt ch nw cm K P lv kv :=
  ⟨h.k.only o (by simp) (by simp), h.r.only o (by simp), h.x⟩

set_option maxRecDepth 100000 in
set_option maxHeartbeats 8000000 in
theorem tdoes_walk (a0 a1 a2 : Int) (a : Option Addr) (len cap : Nat) (raw : Int) (w : World) (u0 : 0 ≤ a0 ∧ a0 ≤ 255) (u1 : 0 ≤ a1 ∧ a1 ≤ 255) (u2 : 0 ≤ a2 ∧ a2 ≤ 255) (h : Deeds13 w a len) :
    Calls Try.prog 14 #[.int .u8 a0, .int .u8 a1, .int .u8 a2, .slice a len cap, .int .i64 raw] w fun e w' => e = .returned (.bool true) ∧ Only [] w w' := by
  have HC := Lib.hid h.cell
  have hl := h.top
  obtain ⟨m, hm⟩ : ∃ m : Nat, a0 % 12 = m := ⟨(a0 % 12).toNat, by omega⟩
  obtain ⟨v, hv⟩ : ∃ v : Nat, a1 % 9 = v := ⟨(a1 % 9).toNat, by omega⟩
  obtain ⟨c, hc⟩ : ∃ c : Nat, a2 % 4 = c := ⟨(a2 % 4).toNat, by omega⟩
  have hm12 : (m : Int) < 12 := by omega
  have hv9 : (v : Int) < 9 := by omega
  have hc4 : (c : Int) < 4 := by omega
  have hlm : (len : Int) ≤ 9223372036854775807 := by simp only [maxLen] at hl; omega
  have htm : a0.tmod 12 = m := by rw [Int.tmod_eq_emod_of_nonneg u0.1]; exact hm
  have htv : a1.tmod 9 = v := by rw [Int.tmod_eq_emod_of_nonneg u1.1]; exact hv
  have htc : a2.tmod 4 = c := by rw [Int.tmod_eq_emod_of_nonneg u2.1]; exact hc
  obtain ⟨u00, u01⟩ := u0
  obtain ⟨u10, u11⟩ := u1
  obtain ⟨u20, u21⟩ := u2
  clear h hl hm hv hc
  by_cases h80 : 80 < len
  · have g1 : decide (80 < (len : Int)) = true := decide_eq_true (by omega)
    go_enter Try.func14, Try.ntmps14
    go_wp2_with fail
    refine (known13 _).mono ?_
    rintro e w2 ⟨rfl, o2⟩
    have H2 := Lib.hid o2
    clear o2
    go_wp2_with fail
    go_ret
    exact ⟨rfl, H2.out⟩
  have g1 : decide (80 < (len : Int)) = false := decide_eq_false (by omega)
  go_enter Try.func14, Try.ntmps14
  go_wp2_with fail
  refine (known13 _).mono ?_
  rintro e w1 ⟨rfl, o1⟩
  have O1 := Lib.hid o1
  clear o1
  go_wp2_with fail
  refine (kobj_new (1 + (m : Int)) (1 + (v : Int)) (1 + (c : Int)) (by omega) (by omega) (by omega) (by omega) (by omega) (by omega)).mono ?_
  rintro e w2 ⟨tp, rfl, h2⟩
  have H2 := Lib.hid h2
  clear h2
  go_wp2_with fail
  refine (ref13_New (1 + (m : Int)) (1 + (v : Int)) (1 + (c : Int)) (by omega) (by omega) (by omega) (by omega) (by omega) (by omega) w2).mono ?_
  rintro e w3 ⟨rfl, o3⟩
  obtain ⟨w4, hw4⟩ : ∃ w4, w4 = w3.alloc (.cells #[.int .i64 (1 + (m : Int)), .int .i64 (1 + (v : Int)), .int .i64 (1 + (c : Int)), .int .i64 0, .int .i64 0, .slice none 0 0, .slice none 0 0] 88) := ⟨_, rfl⟩
  obtain ⟨br, hbr⟩ : ∃ br, br = w3.heap.size := ⟨_, rfl⟩
  have o34 : Only [] w3 w4 := by rw [hw4]; exact (Only.refl _ _).alloc _
  have kb : w4.heap[br]? = some (.cells #[.int .i64 (1 + (m : Int)), .int .i64 (1 + (v : Int)), .int .i64 (1 + (c : Int)), .int .i64 0, .int .i64 0, .slice none 0 0, .slice none 0 0] 88 (0, 0)) := by rw [hw4, hbr]; exact heap_alloc_new w3 _
  have hB : Both w [br] w4 tp (1 + (m : Int)) (1 + (v : Int)) (1 + (c : Int)) 0 0 [] [] (.slice none 0 0) (.slice none 0 0) := by
    refine ⟨?_, ⟨.nil, by simp, .nil⟩, fun x hx => by simp [rbl, blockOf] at hx⟩
    have h3 := H2.out.swap (X' := [br]) (o3.trans o34) (by simp) (by simp) (fun x hx => by
      rw [List.mem_singleton.1 hx, hbr]; exact .inr o3.size) (fun x hx => by rw [List.mem_singleton.1 hx]; exact lt_of_blk kb)
    obtain ⟨b, Fh, ov, Q, q1, q2, q3, q4, q5, q6, q7⟩ := h3
    exact ⟨b, Fh, ov, Q, q1, q2, q3, O1.out.trans' q4 (by simp), fun x hx => ⟨Nat.le_trans O1.out.size (q5 x hx).1, (q5 x hx).2⟩, q6, q7⟩
  have HB := Lib.hid (And.intro hB kb)
  have Hbr := Lib.hid (show w.heap.size ≤ br by rw [hbr]; exact Nat.le_trans O1.out.size (Nat.le_trans H2.out.out.size o3.size))
  clear o3 o34 kb hB H2 O1
  go_wp2_with fail
  rw [← hw4, ← hbr]
  clear hw4 hbr
  go_loopw [14, 15] (fun nv iv wr => ∃ (i : Nat) (now nw cm : Int) (K : List Dec) (P : List (Ab × Value)) (lp kp : Option Addr) (lc kc : Nat) (X : List Nat), nv = .int .i64 now ∧ iv = .int .i64 i ∧ i ≤ len ∧ 0 ≤ now ∧ now ≤ 1099511627776 + 3 * (i : Int) ∧ cm ≤ (i : Int) ∧ wr.heap[br]? = some (.cells #[.int .i64 (1 + (m : Int)), .int .i64 (1 + (v : Int)), .int .i64 (1 + (c : Int)), .int .i64 nw, .int .i64 cm, .slice lp P.length lc, .slice kp K.length kc] 88 (0, 0)) ∧ Both w X wr tp (1 + (m : Int)) (1 + (v : Int)) (1 + (c : Int)) nw cm K P (.slice lp P.length lc) (.slice kp K.length kc) ∧ br ∈ X ∧ br ∉ rbl P (.slice lp P.length lc) (.slice kp K.length kc)) (fun _ iv _ => len - (intOf iv).toNat)
  case atStart => exact ⟨0, 0, 0, 0, [], [], none, none, 0, 0, [br], rfl, rfl, by omega, by omega, by omega, by omega, HB.out.2, HB.out.1, by simp, by simp [rbl, blockOf]⟩
  case round =>
    clear HB
    obtain ⟨i, now, nw, cm, K, P, lp, kp, lc, kc, X, rfl, rfl, hi, hn0, hn1, hcm, kb, hB, hbX, hbn⟩ := hrel
    have hbl : br < wr.heap.size := lt_of_blk kb
    have d0 : wr.cell? ⟨br, 0, none⟩ = some (.int .i64 (1 + (m : Int))) := blk_cells kb 0 _ rfl
    have d1 : wr.cell? ⟨br, 1, none⟩ = some (.int .i64 (1 + (v : Int))) := blk_cells kb 1 _ rfl
    have d2 : wr.cell? ⟨br, 2, none⟩ = some (.int .i64 (1 + (c : Int))) := blk_cells kb 2 _ rfl
    have d3 : wr.cell? ⟨br, 3, none⟩ = some (.int .i64 nw) := blk_cells kb 3 _ rfl
    have d4 : wr.cell? ⟨br, 4, none⟩ = some (.int .i64 cm) := blk_cells kb 4 _ rfl
    have d5 : wr.cell? ⟨br, 5, none⟩ = some (.slice lp P.length lc) := blk_cells kb 5 _ rfl
    have d6 : wr.cell? ⟨br, 6, none⟩ = some (.slice kp K.length kc) := blk_cells kb 6 _ rfl
    by_cases hil : i < len
    · have g2 : decide (i < len) = true := decide_eq_true hil
      obtain ⟨b, off, rfl, hbw, hcell⟩ := HC.out (by omega)
      obtain ⟨x, y, z, u, hx, hy, hz, hu, cx, cy, cz, cu⟩ := hcell i hil
      obtain ⟨r, hr⟩ : ∃ r : Nat, y % 4 = r := ⟨(y % 4).toNat, by omega⟩
      have hr4 : (r : Int) < 4 := by omega
      have hr0 : (0 : Int) ≤ r := by omega
      have hyr : y.tmod 4 = r := by rw [Int.tmod_eq_emod_of_nonneg hy.1]; exact hr
      have hi80 : (i : Int) < 80 := by omega
      have hsum : now + (r : Int) ≤ 1099511628100 := by omega
      have hout := hB.k.out
      replace cx := hout.cell cx (by simp)
      replace cy := hout.cell cy (by simp)
      replace cz := hout.cell cz (by simp)
      replace cu := hout.cell cu (by simp)
      have hbr' : b < wr.heap.size := hout.lt hbw
      have HO := Lib.hid hout
      have HBo := Lib.hid (And.intro hB (And.intro hbX (And.intro hbn kb)))
      have Hcm := Lib.hid hcm
      have Hy := Lib.hid hr
      have CD := Lib.hid (fun W (ho : Only [] wr W) (n : Int) => does_walk (hB.only ho) x y z u n hx hz hu (by omega) (by omega))
      obtain ⟨hy0, hy1⟩ := hy
      have hcB : (decide (245 < y) = true ∧ decide (235 < y) = true ∧ decide (y ≤ 245) = false) ∨ (decide (245 < y) = false ∧ decide (235 < y) = true ∧ decide (y ≤ 245) = true) ∨ (decide (245 < y) = false ∧ decide (235 < y) = false) := by
        by_cases h1 : 245 < y
        · exact .inl ⟨decide_eq_true h1, decide_eq_true (by omega), decide_eq_false (by omega)⟩
        · by_cases h2 : 235 < y
          · exact .inr (.inl ⟨decide_eq_false h1, decide_eq_true h2, decide_eq_true (by omega)⟩)
          · exact .inr (.inr ⟨decide_eq_false h1, decide_eq_false h2⟩)
      have HcB := Lib.hid hcB
      clear hB hbX hbn kb hcm hcell hx hz hu hr hout hbw hcB
      obtain ⟨e1, he1⟩ : ∃ e1, decide (245 < y) = e1 := ⟨_, rfl⟩
      obtain ⟨e2, he2⟩ : ∃ e2, decide (235 < y) = e2 := ⟨_, rfl⟩
      obtain ⟨e3, he3⟩ : ∃ e3, decide (y ≤ 245) = e3 := ⟨_, rfl⟩
      go_upto_if 82 with fail
      go_cut [16] (fun tv wx => wx = wr ∧ ∃ t : Int, tv = .int .i64 t)
      case first =>
        cases e1
        all_goals
          go_wp2_with fail
          go_meet
          exact ⟨rfl, _, rfl⟩
      case rest =>
        obtain ⟨rfl, t, rfl⟩ := hcut
        go_upto_region 15 with fail
        go_cut [97] (fun pv wx => wx = wc ∧ ∃ bb : Bool, pv = .bool bb)
        case first =>
          cases e2 <;> cases e3
          all_goals
            go_wp2_with fail
            go_meet
            exact ⟨rfl, _, rfl⟩
        case rest =>
        obtain ⟨rfl, bb, rfl⟩ := hcut
        go_upto_if 97 with fail
        go_cut [16] (fun tv wx => wx = wc ∧ ∃ t : Int, tv = .int .i64 t)
        case first =>
          cases bb
          all_goals
            go_wp2_with fail
            go_meet
            exact ⟨rfl, _, rfl⟩
        case rest =>
        obtain ⟨rfl, t', rfl⟩ := hcut
        clear e1 he1 e2 he2 e3 he3
        go_wp2_with fail
        go_region_with (go_at_call 40; go_must (refine (CD.out _ (by first | exact Only.refl _ _ | exact (Only.refl _ _).drew | exact (Only.refl _ _).drewN _) _).mono ?_; rintro e w5 hp; have HP := Lib.hid hp; clear hp; obtain ⟨lp', lc', kp', kc', P', K', nw', cm', X', rfl, ⟨hB5, hXX, hxs⟩, ⟨hc1, hc2⟩, ⟨hn3, hn4⟩, hrb⟩ := HP.out; have kb5 : w5.heap[br]? = some (.cells #[.int .i64 (1 + (m : Int)), .int .i64 (1 + (v : Int)), .int .i64 (1 + (c : Int)), .int .i64 nw, .int .i64 cm, .slice lp P.length lc, .slice kp K.length kc] 88 (0, 0)) := (hxs br HBo.out.2.1).trans HBo.out.2.2.2; have hbn5 : br ∉ rbl P' (.slice lp' P'.length lc') (.slice kp' K'.length kc') := (fun hm => (hrb br hm).elim HBo.out.2.2.1 (fun h => absurd hbl (Nat.not_lt.2 h))); have HB5 := Lib.hid (And.intro hB5 (And.intro (hXX br HBo.out.2.1) (And.intro hbn5 kb5))); have Hc := Lib.hid (And.intro hc2 (And.intro hn3 hn4)); have h0 : w5.cell? ⟨br, 0, none⟩ = some (.int .i64 (1 + (m : Int))) := blk_cells kb5 0 _ rfl; have h1 : w5.cell? ⟨br, 1, none⟩ = some (.int .i64 (1 + (v : Int))) := blk_cells kb5 1 _ rfl; have h2 : w5.cell? ⟨br, 2, none⟩ = some (.int .i64 (1 + (c : Int))) := blk_cells kb5 2 _ rfl; have h3 : w5.cell? ⟨br, 3, none⟩ = some (.int .i64 nw) := blk_cells kb5 3 _ rfl; have h4 : w5.cell? ⟨br, 4, none⟩ = some (.int .i64 cm) := blk_cells kb5 4 _ rfl; have h5 : w5.cell? ⟨br, 5, none⟩ = some (.slice lp P.length lc) := blk_cells kb5 5 _ rfl; have h6 : w5.cell? ⟨br, 6, none⟩ = some (.slice kp K.length kc) := blk_cells kb5 6 _ rfl; have hz5 : ∀ j, w5.frozen? ⟨br, j, none⟩ = false := (fun j => frozen_of_blk kb5); have hl5 : br < w5.heap.size := lt_of_blk kb5; clear HP hB5 hXX hxs hc1 hc2 hn3 hn4 hrb kb5 hbn5))
        all_goals
          obtain ⟨w6, hw6⟩ : ∃ w6, w6 = (((((((w5.setCell ⟨br, 0, none⟩ (.int .i64 (1 + (m : Int)))).setCell ⟨br, 1, none⟩ (.int .i64 (1 + (v : Int)))).setCell ⟨br, 2, none⟩ (.int .i64 (1 + (c : Int)))).setCell ⟨br, 3, none⟩ (.int .i64 nw')).setCell ⟨br, 4, none⟩ (.int .i64 cm')).setCell ⟨br, 5, none⟩ (.slice lp' P'.length lc')).setCell ⟨br, 6, none⟩ (.slice kp' K'.length kc')) := ⟨_, rfl⟩
          have o6 : Only [br] w5 w6 := by rw [hw6]; exact only_set7 w5 br _ _ _ _ _ _ _
          have kb6 : w6.heap[br]? = some (.cells #[.int .i64 (1 + (m : Int)), .int .i64 (1 + (v : Int)), .int .i64 (1 + (c : Int)), .int .i64 nw', .int .i64 cm', .slice lp' P'.length lc', .slice kp' K'.length kc'] 88 (0, 0)) := by
            rw [hw6]
            exact setCell_blk (i := 6) (setCell_blk (i := 5) (setCell_blk (i := 4) (setCell_blk (i := 3) (setCell_blk (i := 2) (setCell_blk (i := 1) (setCell_blk (i := 0) HB5.out.2.2.2))))))
          have hB6 := both_setBox HB5.out.1 o6 HB5.out.2.1 Hbr.out HB5.out.2.2.1
          have HN := Lib.hid (kobj_Next hB6.k)
          obtain ⟨xn, hxn⟩ : ∃ xn, (nextA (P'.map (·.1))).1 = xn := ⟨_, rfl⟩
          obtain ⟨xb, hxb⟩ : ∃ xb, (nextA (P'.map (·.1))).2 = xb := ⟨_, rfl⟩
          rw [hxn, hxb] at HN
          have Hnx := Lib.hid (And.intro hxn hxb)
          have HB6 := Lib.hid (And.intro hB6 kb6)
          clear o6 kb6 hB6 hxn hxb
          go_wp2_with fail
          rw [← hw6]
          refine HN.out.mono ?_
          rintro e w7 ⟨rfl, o7⟩
          have kb7 := o7.blk HB6.out.2 (by simp)
          have hB7 := HB6.out.1.only o7
          obtain ⟨hp1, hp2, _⟩ := hB7.k.small
          rw [List.length_map] at hp2
          have hRN := ref13_Next hB7.r (by have := hB7.k.dues; rw [List.map_map] at this; exact this) (by omega) (1 + (m : Int)) (1 + (v : Int)) (1 + (c : Int)) nw' cm'
          rw [Hnx.out.1, Hnx.out.2] at hRN
          have HRN := Lib.hid hRN
          have i0 : w7.cell? ⟨br, 0, none⟩ = some (.int .i64 (1 + (m : Int))) := blk_cells kb7 0 _ rfl
          have i1 : w7.cell? ⟨br, 1, none⟩ = some (.int .i64 (1 + (v : Int))) := blk_cells kb7 1 _ rfl
          have i2 : w7.cell? ⟨br, 2, none⟩ = some (.int .i64 (1 + (c : Int))) := blk_cells kb7 2 _ rfl
          have i3 : w7.cell? ⟨br, 3, none⟩ = some (.int .i64 nw') := blk_cells kb7 3 _ rfl
          have i4 : w7.cell? ⟨br, 4, none⟩ = some (.int .i64 cm') := blk_cells kb7 4 _ rfl
          have i5 : w7.cell? ⟨br, 5, none⟩ = some (.slice lp' P'.length lc') := blk_cells kb7 5 _ rfl
          have i6 : w7.cell? ⟨br, 6, none⟩ = some (.slice kp' K'.length kc') := blk_cells kb7 6 _ rfl
          have hl7 : br < w7.heap.size := lt_of_blk kb7
          have HB7 := Lib.hid (And.intro hB7 kb7)
          have Hsm := Lib.hid (show spansA (P'.map (·.1)) ≤ 100000 ∧ P'.length ≤ 100000 from ⟨by omega, by omega⟩)
          clear kb7 hB7 hp1 hp2 hRN o7 HN hw6 h0 h1 h2 h3 h4 h5 h6 hz5 hl5
          go_wp2_with fail
          refine HRN.out.mono ?_
          rintro e w8 ⟨rfl, o8⟩
          have kb8 := o8.blk HB7.out.2 (by simp)
          have hB8 := HB7.out.1.only o8
          have j0 : w8.cell? ⟨br, 0, none⟩ = some (.int .i64 (1 + (m : Int))) := blk_cells kb8 0 _ rfl
          have j1 : w8.cell? ⟨br, 1, none⟩ = some (.int .i64 (1 + (v : Int))) := blk_cells kb8 1 _ rfl
          have j2 : w8.cell? ⟨br, 2, none⟩ = some (.int .i64 (1 + (c : Int))) := blk_cells kb8 2 _ rfl
          have j3 : w8.cell? ⟨br, 3, none⟩ = some (.int .i64 nw') := blk_cells kb8 3 _ rfl
          have j4 : w8.cell? ⟨br, 4, none⟩ = some (.int .i64 cm') := blk_cells kb8 4 _ rfl
          have j5 : w8.cell? ⟨br, 5, none⟩ = some (.slice lp' P'.length lc') := blk_cells kb8 5 _ rfl
          have j6 : w8.cell? ⟨br, 6, none⟩ = some (.slice kp' K'.length kc') := blk_cells kb8 6 _ rfl
          have hl8 : br < w8.heap.size := lt_of_blk kb8
          have HB8 := Lib.hid (And.intro hB8 kb8)
          have HJ8 := Lib.hid (show ∀ W, Only [] w8 W → _ from fun W ho => by
            have zz := ho.blk kb8 (by simp)
            exact (show W.cell? ⟨br, 0, none⟩ = some (.int .i64 (1 + (m : Int))) ∧ W.cell? ⟨br, 1, none⟩ = some (.int .i64 (1 + (v : Int))) ∧ W.cell? ⟨br, 2, none⟩ = some (.int .i64 (1 + (c : Int))) ∧ W.cell? ⟨br, 3, none⟩ = some (.int .i64 nw') ∧ W.cell? ⟨br, 4, none⟩ = some (.int .i64 cm') ∧ W.cell? ⟨br, 5, none⟩ = some (.slice lp' P'.length lc') ∧ W.cell? ⟨br, 6, none⟩ = some (.slice kp' K'.length kc') from ⟨blk_cells zz 0 _ rfl, blk_cells zz 1 _ rfl, blk_cells zz 2 _ rfl, blk_cells zz 3 _ rfl, blk_cells zz 4 _ rfl, blk_cells zz 5 _ rfl, blk_cells zz 6 _ rfl⟩))
          have HL1 := Lib.hid (fun W (ho : Only [] w8 W) => kobj_Len (hB8.k.only ho (by simp) (by simp)))
          have HL2 := Lib.hid (fun W (ho : Only [] w8 W) => ref13_Len (hB8.r.only ho (by simp)) Hsm.out.1 Hsm.out.2 (1 + (m : Int)) (1 + (v : Int)) (1 + (c : Int)) nw' cm')
          have t1 : (xn != xn) = false := by simp
          have t2 : (xb != xb) = false := by simp
          have t3 : ((spansA (P'.map (·.1)) : Int) != (spansA (P'.map (·.1)) : Int)) = false := by simp
          clear kb8 hB8 o8 HRN i0 i1 i2 i3 i4 i5 i6 hl7
          go_wp2_with fail
          go_region_held3 (fun W => W.cell? ⟨br, 0, none⟩ = some (.int .i64 (1 + (m : Int))) ∧ W.cell? ⟨br, 1, none⟩ = some (.int .i64 (1 + (v : Int))) ∧ W.cell? ⟨br, 2, none⟩ = some (.int .i64 (1 + (c : Int))) ∧ W.cell? ⟨br, 3, none⟩ = some (.int .i64 nw') ∧ W.cell? ⟨br, 4, none⟩ = some (.int .i64 cm') ∧ W.cell? ⟨br, 5, none⟩ = some (.slice lp' P'.length lc') ∧ W.cell? ⟨br, 6, none⟩ = some (.slice kp' K'.length kc')) ((refine HJ8.out _ ?_; first | assumption | exact Only.refl _ _ | exact (Only.refl _ _).drew))
            ((first
            | (go_at_call 35; refine (HL1.out _ (by first | assumption | exact Only.refl _ _ | exact (Only.refl _ _).drew | exact (Only.refl _ _).drewN _)).mono ?_; rintro e w9 ⟨rfl, rfl⟩)
            | (go_at_call 42; refine (HL2.out _ (by first | assumption | exact Only.refl _ _ | exact (Only.refl _ _).drew | exact (Only.refl _ _).drewN _)).mono ?_; rintro e w9 ⟨rfl, o9⟩; have o3 := Only.trans (S := []) (a := w8) (by first | assumption | exact Only.refl _ _ | exact (Only.refl _ _).drew | exact (Only.refl _ _).drewN _) o9; clear o9)))
          have o89 : Only [] w8 w9 := by assumption
          have O9 := Lib.hid o89
          have p3 : w9.cell? ⟨br, 3, none⟩ = some (.int .i64 nw') := o89.cell j3 (by simp)
          have pl : br < w9.heap.size := o89.lt hl8
          clear o89
          go_wp2_with fail
          go_roundw
          case rel =>
            have hq := Hc.out
            have hcm := Hcm.out
            refine ⟨i + 1, _, nw', cm', K', P', lp', kp', lc', kc', X', rfl, by go_num, by omega, ?_, ?_, by omega, O9.out.blk HB8.out.2 (by simp), HB8.out.1.only O9.out, HB5.out.2.1, HB5.out.2.2.1⟩
            · split <;> omega
            · split <;> omega
          case measure => simp [intOf]; omega
    · have g2 : decide (i < len) = false := decide_eq_false hil
      have HO := Lib.hid hB.k.out
      clear hB hbX hbn kb
      go_wp2_with fail
      go_ret
      exact ⟨rfl, HO.out⟩
end Go.Proofs.Ytcppnmogdmpdbaa
