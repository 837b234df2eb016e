/- Append in general, one element or a whole row; the document's answer for Decide, walked. -/
import Derived.Test.YtcppnmogdmpdbaaLa
import Derived.Test.YtcppnmogdmpdbaaMw
set_option linter.unusedVariables false
set_option linter.unusedSimpArgs false
namespace Go.Proofs.Ytcppnmogdmpdbaa
open Go.RowKit Go.Mk Go.Hp
attribute [-go_sem] Builtin.append_

theorem info_known : ∃ i, Try.prog.info? 140 = some i ∧ i.zero = some (.agg #[.int .u64 0, .int .u64 0, .bool false]) ∧ i.size = 3 ∧ i.bytes = 24 := by
  obtain ⟨i0, hi, hz0, hz1, hz2⟩ := info_parts (P := Try.prog) (e := 140) (z := .agg #[.int .u64 0, .int .u64 0, .bool false]) (size := 3) (bytes := 24) (by kernel_rfl)
  exact ⟨i0, hi, hz0, hz1, hz2⟩

theorem known_append {w : World} {L : List Dec} {sv : Value} (h : SliceIs w 140 3 (L.map encK) sv) (hl : L.length ≤ 10000) (d : Dec) :
    ∃ g off cap' w', (Builtin.append_ #[86, 86] 86 #[sv, .slice (some ⟨w.heap.size, 0, none⟩) 1 1]).run Try.prog (w.alloc (.cells #[.int .u64 d.1.1, .int .u64 d.1.2, .bool d.2] 140)) = .ok (.slice (some ⟨g, off, none⟩) (L.length + 1) cap') w' ∧
      SliceIs w' 140 3 ((L ++ [d]).map encK) (.slice (some ⟨g, off, none⟩) (L.length + 1) cap') ∧ Only (blockOf sv) w w' ∧ (g ∈ blockOf sv ∨ w.heap.size ≤ g) := by
  obtain ⟨i0, hi0, hz0, hz1, hz2⟩ := info_known
  have h2 := row_append1 (P := Try.prog) Try.underlying86 hi0 hz0 hz1 hz2 rfl (by omega) h (by rw [List.length_map]; omega) #[.int .u64 d.1.1, .int .u64 d.1.2, .bool d.2] rfl (by simp [Value.oneCell'])
  rw [List.length_map] at h2
  obtain ⟨g, off, cap', w', hap, hsl, ho, hg⟩ := h2
  exact ⟨g, off, cap', w', hap, by rw [List.map_append]; exact hsl, ho, hg⟩

section
variable {w : World} {lp kp : Option Addr} {lc kc : Nat} {P : List (Ab × Value)} {K : List Dec}

theorem only_set8 (w : World) (b : Nat) (v0 v1 v2 v3 v4 v5 v6 v7 : Value) : Only [b, b + 1] w ((((((((w.setCell ⟨b, 6, none⟩ v0).setCell ⟨b + 1, 0, none⟩ v1).setCell ⟨b + 1, 1, none⟩ v2).setCell ⟨b + 1, 2, none⟩ v3).setCell ⟨b + 1, 3, none⟩ v4).setCell ⟨b + 1, 4, none⟩ v5).setCell ⟨b + 1, 5, none⟩ v6).setCell ⟨b + 1, 6, none⟩ v7) := by
  refine Only.setCell ?_ (.inl (by simp)) _
  refine Only.setCell ?_ (.inl (by simp)) _
  refine Only.setCell ?_ (.inl (by simp)) _
  refine Only.setCell ?_ (.inl (by simp)) _
  refine Only.setCell ?_ (.inl (by simp)) _
  refine Only.setCell ?_ (.inl (by simp)) _
  refine Only.setCell ?_ (.inl (by simp)) _
  refine Only.setCell ?_ (.inl (by simp)) _
  exact Only.refl _ _
theorem less_take {t : Tr} {K : List Dec} {i : Nat} {p : Dec} (h : K[i]? = some p) : lessK t (K.take (i + 1)) = if p.1 = t then lessK t (K.take i) else lessK t (K.take i) ++ [p] := by
  unfold lessK
  rw [List.take_add_one, h, List.filter_append]
  by_cases hp : p.1 = t
  · rw [if_pos hp]; simp [hp]
  · rw [if_neg hp]; simp [hp]

set_option maxRecDepth 100000 in
set_option maxHeartbeats 4000000 in
theorem ref13_Decide (h : RefB w (.slice lp P.length lc) (.slice kp K.length kc) P K) (hK : K.length ≤ 5000) {ch : Int} (hch : 1 ≤ ch) (ms wt nw cm hi lo : Int) (kb : Bool) :
    Calls Try.prog 58 #[.agg #[.int .i64 ms, .int .i64 wt, .int .i64 ch, .int .i64 nw, .int .i64 cm, .slice lp P.length lc, .slice kp K.length kc], .int .u64 hi, .int .u64 lo, .bool kb] w fun e w' => ∃ g n c, e = .returned (.agg #[.int .i64 ms, .int .i64 wt, .int .i64 ch, .int .i64 nw, .int .i64 cm, .slice lp P.length lc, .slice g n c]) ∧
      SliceIs w' 140 3 ((decK (hi, lo) kb ch K).map encK) (.slice g n c) ∧ Only [] w w' ∧ ∀ b ∈ blockOf (.slice g n c), w.heap.size ≤ b := by
  obtain ⟨w1, hw1⟩ : ∃ w1, w1 = (w.alloc (.cells #[.int .i64 ms, .int .i64 wt, .int .i64 ch, .int .i64 nw, .int .i64 cm, .slice lp P.length lc, .slice kp K.length kc] 88)).alloc (.cells #[.int .i64 0, .int .i64 0, .int .i64 0, .int .i64 0, .int .i64 0, .slice none 0 0, .slice none 0 0] 88) := ⟨_, rfl⟩
  have o1 : Only [] w w1 := by rw [hw1]; exact ((Only.refl _ _).alloc _).alloc _
  have b0 : w1.heap[w.heap.size]? = some (.cells #[.int .i64 ms, .int .i64 wt, .int .i64 ch, .int .i64 nw, .int .i64 cm, .slice lp P.length lc, .slice kp K.length kc] 88 (0, 0)) := by
    rw [hw1]; exact ((Only.refl [] _).alloc _).blk (heap_alloc_new w _) (by simp)
  have b1 : w1.heap[w.heap.size + 1]? = some (.cells #[.int .i64 0, .int .i64 0, .int .i64 0, .int .i64 0, .int .i64 0, .slice none 0 0, .slice none 0 0] 88 (0, 0)) := by
    have h1 := heap_alloc_new (w.alloc (.cells #[.int .i64 ms, .int .i64 wt, .int .i64 ch, .int .i64 nw, .int .i64 cm, .slice lp P.length lc, .slice kp K.length kc] 88)) (.cells #[.int .i64 0, .int .i64 0, .int .i64 0, .int .i64 0, .int .i64 0, .slice none 0 0, .slice none 0 0] 88)
    rw [show (w.alloc (.cells #[.int .i64 ms, .int .i64 wt, .int .i64 ch, .int .i64 nw, .int .i64 cm, .slice lp P.length lc, .slice kp K.length kc] 88)).heap.size = w.heap.size + 1 by simp] at h1
    rw [hw1]; exact h1
  have H := Lib.hid (And.intro (h.only o1 (by simp)) (And.intro o1 (And.intro b0 b1)))
  have hwl : w.heap.size + 1 < w1.heap.size := lt_of_blk b1
  have hwl0 : w.heap.size < w1.heap.size := by omega
  have hKI : (K.length : Int) ≤ 5000 := by omega
  clear h o1 b0 b1
  go_enter Try.func58, Try.ntmps58
  go_wp2_with fail
  rw [← hw1]
  clear hw1
  go_loopw [9, 10] (fun lv iv wr => ∃ i : Nat, iv = .int .i64 i ∧ i ≤ K.length ∧ SliceIs wr 140 3 ((lessK (hi, lo) (K.take i)).map encK) lv ∧ (∀ b ∈ blockOf lv, w1.heap.size ≤ b) ∧ Only [] w1 wr) (fun _ iv _ => K.length - (intOf iv).toNat)
  case atStart => exact ⟨0, rfl, Nat.zero_le _, .nil, by simp [blockOf], Only.refl _ _⟩
  case round =>
    obtain ⟨i, rfl, hi', hlv, hbl, ow⟩ := hrel
    have hbw := ow.blk H.out.2.2.1 (by simp)
    have c2 : wr.cell? ⟨w.heap.size, 2, none⟩ = some (.int .i64 ch) := by rw [cell_of_blk hbw]; rfl
    have c6 : wr.cell? ⟨w.heap.size, 6, none⟩ = some (.slice kp K.length kc) := by rw [cell_of_blk hbw]; rfl
    have hwr : w.heap.size + 1 < wr.heap.size := ow.lt hwl
    have hwr0 : w.heap.size < wr.heap.size := by omega
    have hwr1 : ¬ w.heap.size = wr.heap.size := by omega
    obtain ⟨q, cq, hlf⟩ := hlv.form
    have hll : ((lessK (hi, lo) (K.take i)).map encK).length ≤ 5000 := by
      rw [List.length_map]
      have h1 := less_len (hi, lo) (K.take i)
      rw [List.length_take] at h1
      omega
    by_cases hil : i < K.length
    · have t1 : decide ((i : Int) < (K.length : Int)) = true := decide_eq_true (by omega)
      have t1' : decide (i < K.length) = true := decide_eq_true hil
      obtain ⟨p, hp⟩ : ∃ p, K[i]? = some p := ⟨_, List.getElem?_eq_getElem hil⟩
      have hnx := less_take (t := (hi, lo)) hp
      obtain ⟨g, off, hg, hgl, hx⟩ := row_cells (j := i) (H.out.1.only ow (by simp)).k (by rw [List.getElem?_map, hp]; rfl)
      have x0 := hx 0 _ rfl
      have x1 := hx 1 _ rfl
      have x2 := hx 2 _ rfl
      simp only [Nat.add_zero] at x0
      subst hg
      have hiI : (i : Int) < (K.length : Int) := by omega
      by_cases heq : p.1 = (hi, lo)
      · rw [if_pos heq] at hnx
        have e1 : p.1.1 = hi := by rw [heq]
        have e2 : p.1.2 = lo := by rw [heq]
        rw [e1] at x0
        rw [e2] at x1
        have t2 : (hi != hi) = false := by simp
        have t3 : (lo != lo) = false := by simp
        have HE := Lib.hid (And.intro hnx (And.intro hlv (And.intro hbl ow)))
        clear hnx hlv hbl ow hbw hx hp heq e1 e2 hlf hll
        go_wp2_with fail
        go_roundw
        case rel => exact ⟨i + 1, by go_num, by omega, by rw [HE.out.1]; exact HE.out.2.1, HE.out.2.2.1, HE.out.2.2.2⟩
        case measure => simp [intOf]; omega
      · rw [if_neg heq] at hnx
        have hcs : (p.1.1 != hi) = true ∨ ((p.1.1 != hi) = false ∧ (p.1.2 != lo) = true) := by
          by_cases h1 : p.1.1 = hi
          · exact .inr ⟨by simp [h1], by simp only [bne_iff_ne, ne_eq]; exact fun h2 => heq (Prod.ext h1 h2)⟩
          · exact .inl (by simp [h1])
        rcases hcs with hc1 | ⟨hc1, hc2⟩
        all_goals
          obtain ⟨g2, off2, c2', w2, hap, hs2, o2, hg2⟩ := known_append (L := lessK (hi, lo) (K.take i)) hlv (by rw [List.length_map] at hll; omega) p
          have hmap : (lessK (hi, lo) (K.take (i + 1))).map encK = (lessK (hi, lo) (K.take i) ++ [p]).map encK := by rw [hnx]
          have hb2 : ∀ b ∈ blockOf (.slice (some ⟨g2, off2, none⟩) ((lessK (hi, lo) (K.take i)).length + 1) c2'), w1.heap.size ≤ b := by
            intro b hb
            simp only [blockOf, List.mem_singleton] at hb
            subst hb
            rcases hg2 with h3 | h3
            · exact hbl _ h3
            · exact Nat.le_trans ow.size h3
          rw [← hmap] at hs2
          have HE := Lib.hid (And.intro hs2 (And.intro hb2 (ow.trans' o2 (fun x hx hlt => by have := hbl x hx; omega))))
          rw [List.length_map] at hlf
          subst hlf
          clear hs2 hb2 o2 hg2 hmap hnx hlv hbl ow hbw hx hp heq hll
          go_wp2_with fail
          go_roundw
          case rel => exact ⟨i + 1, by go_num, by omega, HE.out.1, HE.out.2.1, HE.out.2.2⟩
          case measure => simp [intOf]; omega
    · have hieq : i = K.length := by omega
      subst hieq
      have t1 : decide ((K.length : Int) < (K.length : Int)) = false := decide_eq_false (by omega)
      have t1' : decide (K.length < K.length) = false := decide_eq_false hil
      rw [List.take_length] at hlv hll hlf
      rw [List.length_map] at hll hlf
      obtain ⟨g2, off2, c2', w2, hap, hs2, o2, hg2⟩ := known_append (L := lessK (hi, lo) K) hlv (by omega) ((hi, lo), kb)
      have hb2 : ∀ b ∈ blockOf (.slice (some ⟨g2, off2, none⟩) ((lessK (hi, lo) K).length + 1) c2'), w1.heap.size ≤ b := by
        intro b hb
        simp only [blockOf, List.mem_singleton] at hb
        subst hb
        rcases hg2 with h3 | h3
        · exact hbl _ h3
        · exact Nat.le_trans ow.size h3
      have ow2 := ow.trans' o2 (fun x hx hlt => by have := hbl x hx; omega)
      have b0 := ow2.blk H.out.2.2.1 (by simp)
      have b1 := ow2.blk H.out.2.2.2 (by simp)
      have d0 : w2.cell? ⟨w.heap.size, 0, none⟩ = some (.int .i64 ms) := by rw [cell_of_blk b0]; rfl
      have d1 : w2.cell? ⟨w.heap.size, 1, none⟩ = some (.int .i64 wt) := by rw [cell_of_blk b0]; rfl
      have d2 : w2.cell? ⟨w.heap.size, 2, none⟩ = some (.int .i64 ch) := by rw [cell_of_blk b0]; rfl
      have d3 : w2.cell? ⟨w.heap.size, 3, none⟩ = some (.int .i64 nw) := by rw [cell_of_blk b0]; rfl
      have d4 : w2.cell? ⟨w.heap.size, 4, none⟩ = some (.int .i64 cm) := by rw [cell_of_blk b0]; rfl
      have d5 : w2.cell? ⟨w.heap.size, 5, none⟩ = some (.slice lp P.length lc) := by rw [cell_of_blk b0]; rfl
      have d6 : w2.cell? ⟨w.heap.size, 6, none⟩ = some (.slice kp K.length kc) := by rw [cell_of_blk b0]; rfl
      have fz0 : ∀ j, w2.frozen? ⟨w.heap.size, j, none⟩ = false := fun j => frozen_of_blk b0
      have fz1 : ∀ j, w2.frozen? ⟨w.heap.size + 1, j, none⟩ = false := fun j => frozen_of_blk b1
      have f0 : w2.cell? ⟨w.heap.size + 1, 0, none⟩ = some (.int .i64 0) := by rw [cell_of_blk b1]; rfl
      have f1 : w2.cell? ⟨w.heap.size + 1, 1, none⟩ = some (.int .i64 0) := by rw [cell_of_blk b1]; rfl
      have f2 : w2.cell? ⟨w.heap.size + 1, 2, none⟩ = some (.int .i64 0) := by rw [cell_of_blk b1]; rfl
      have f3 : w2.cell? ⟨w.heap.size + 1, 3, none⟩ = some (.int .i64 0) := by rw [cell_of_blk b1]; rfl
      have f4 : w2.cell? ⟨w.heap.size + 1, 4, none⟩ = some (.int .i64 0) := by rw [cell_of_blk b1]; rfl
      have f5 : w2.cell? ⟨w.heap.size + 1, 5, none⟩ = some (.slice none 0 0) := by rw [cell_of_blk b1]; rfl
      have f6 : w2.cell? ⟨w.heap.size + 1, 6, none⟩ = some (.slice none 0 0) := by rw [cell_of_blk b1]; rfl
      have hfit := hs2.fits
      rw [List.length_map, List.length_append] at hfit
      have hmk : moreK (hi, lo) kb K = lessK (hi, lo) K ++ [((hi, lo), kb)] := rfl
      have HE := Lib.hid (And.intro hs2 (And.intro hb2 (And.intro ow2 (And.intro b0 (And.intro b1 hmk)))))
      have hw2 : w.heap.size + 1 < w2.heap.size := lt_of_blk b1
      have hw20 : w.heap.size < w2.heap.size := by omega
      subst hlf
      simp only [List.length_cons, List.length_nil] at hfit
      clear hs2 hb2 o2 hg2 hlv hbl ow ow2 hbw hmk b0 b1
      by_cases hcut : ch < ((lessK (hi, lo) K).length : Int) + 1
      · have t2 : decide (ch < ((lessK (hi, lo) K).length : Int) + 1) = true := decide_eq_true hcut
        have c10 : ¬ c2' = 1 := by omega
        go_wp2_with fail
        refine bodyPost_ret (v := .agg #[.int .i64 ms, .int .i64 wt, .int .i64 ch, .int .i64 nw, .int .i64 cm, .slice lp P.length lc, .slice (some ⟨g2, off2 + 3, none⟩) (lessK (hi, lo) K).length (c2' - 1)]) (by simp [results, Try.results58, go_sem, d0, d1, d2, d3, d4, d5, d6, f0, f1, f2, f3, f4, f5, f6]; try rfl) rfl ?_
        have hdec : decK (hi, lo) kb ch K = (lessK (hi, lo) K ++ [((hi, lo), kb)]).tail := by unfold decK; rw [if_pos (by rw [HE.out.2.2.2.2.2, List.length_append]; simpa using hcut), HE.out.2.2.2.2.2]
        have oW := only_set8 w2 w.heap.size (.slice (some ⟨g2, off2 + 3, none⟩) (lessK (hi, lo) K).length (c2' - 1)) (.int .i64 ms) (.int .i64 wt) (.int .i64 ch) (.int .i64 nw) (.int .i64 cm) (.slice lp P.length lc) (.slice (some ⟨g2, off2 + 3, none⟩) (lessK (hi, lo) K).length (c2' - 1))
        have hc3 : SliceIs w2 140 3 ((decK (hi, lo) kb ch K).map encK) (.slice (some ⟨g2, off2 + 3, none⟩) (lessK (hi, lo) K).length (c2' - 1)) := by
          have h4 := HE.out.1.cut (l := 1) (r := (lessK (hi, lo) K).length + 1) (by omega) (by simp)
          rw [sliced_eq, if_neg c10, List.take_of_length_le (by simp), ← List.map_drop, List.drop_one] at h4
          rw [hdec]
          exact h4
        refine ⟨_, _, _, rfl, hc3.only oW (fun x hx hm => by have := HE.out.2.1 x hx; simp at hm; omega), (H.out.2.1.trans HE.out.2.2.1).trans' oW (fun x hx hlt => by simp at hx; omega), fun b hb => Nat.le_trans (Nat.le_of_lt hwl0) (HE.out.2.1 b hb)⟩
      · have t2 : decide (ch < ((lessK (hi, lo) K).length : Int) + 1) = false := decide_eq_false hcut
        go_wp2_with fail
        refine bodyPost_ret (v := .agg #[.int .i64 ms, .int .i64 wt, .int .i64 ch, .int .i64 nw, .int .i64 cm, .slice lp P.length lc, .slice (some ⟨g2, off2, none⟩) ((lessK (hi, lo) K).length + 1) c2']) (by simp [results, Try.results58, go_sem, d0, d1, d2, d3, d4, d5, d6, f0, f1, f2, f3, f4, f5, f6]; try rfl) rfl ?_
        have hdec : decK (hi, lo) kb ch K = lessK (hi, lo) K ++ [((hi, lo), kb)] := by unfold decK; rw [if_neg (by rw [HE.out.2.2.2.2.2, List.length_append]; simpa using hcut), HE.out.2.2.2.2.2]
        have oW := only_set8 w2 w.heap.size (.slice (some ⟨g2, off2, none⟩) ((lessK (hi, lo) K).length + 1) c2') (.int .i64 ms) (.int .i64 wt) (.int .i64 ch) (.int .i64 nw) (.int .i64 cm) (.slice lp P.length lc) (.slice (some ⟨g2, off2, none⟩) ((lessK (hi, lo) K).length + 1) c2')
        refine ⟨_, _, _, rfl, by rw [hdec]; exact HE.out.1.only oW (fun x hx hm => by have := HE.out.2.1 x hx; simp at hm; omega), (H.out.2.1.trans HE.out.2.2.1).trans' oW (fun x hx hlt => by simp at hx; omega), fun b hb => Nat.le_trans (Nat.le_of_lt hwl0) (HE.out.2.1 b hb)⟩
end

end Go.Proofs.Ytcppnmogdmpdbaa
