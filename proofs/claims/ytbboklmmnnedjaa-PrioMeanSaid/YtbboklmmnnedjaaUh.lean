/- The document's answer of layer 11, walked: Close. -/
import Derived.Test.YtbboklmmnnedjaaUg
set_option linter.unusedVariables false
set_option linter.unusedSimpArgs false
namespace Go.Pr
/-- The first place of a number. -/
def posI (i : Nat) : List Nat → Nat
  | [] => 0
  | j :: R => if j = i then 0 else posI i R + 1
theorem posI_get {i : Nat} : ∀ {O : List Nat}, i ∈ O → O[posI i O]? = some i
  | [], h => by simp at h
  | j :: R, h => by
    unfold posI
    by_cases hj : j = i
    · rw [if_pos hj, hj]; rfl
    · rw [if_neg hj]
      rcases List.mem_cons.1 h with h1 | h1
      · exact absurd h1.symm hj
      · simpa using posI_get h1
theorem posI_before {i : Nat} : ∀ {O : List Nat} {q x : Nat}, q < posI i O → O[q]? = some x → x ≠ i
  | [], q, x, h, _ => by simp [posI] at h
  | j :: R, q, x, h, hx => by
    unfold posI at h
    by_cases hj : j = i
    · rw [if_pos hj] at h; omega
    · rw [if_neg hj] at h
      cases q with
      | zero => simp at hx; subst hx; exact hj
      | succ q => exact posI_before (O := R) (q := q) (by omega) (by simpa using hx)
end Go.Pr

namespace Go.Proofs.Ytbboklmmnnedjaa
open Go.RowKit Go.Mk Go.Pr
attribute [-go_sem] Builtin.append_ sliced

/-- What the document's Close tells of one. -/
def refOne (keep m : Nat) (L : List (Nat × Nat)) (i : Nat) : Kt :=
  if keep < L.length then
    let b := L.getD ((orderN (abL L) L.length).getD keep 0) (0, 0)
    ⟨i, (countN m ⟨(L.getD i (0, 0)).1, 0, 0⟩ ⟨b.1, b.2, 0⟩).1, (countN m ⟨(L.getD i (0, 0)).1, 0, 0⟩ ⟨b.1, b.2, 0⟩).2⟩
  else ⟨i, (L.getD i (0, 0)).1, 1⟩
def refTo (keep m : Nat) (L : List (Nat × Nat)) : Nat → List Kt
  | 0 => []
  | i + 1 => if posI i (orderN (abL L) L.length) < keep then refTo keep m L i ++ [refOne keep m L i] else refTo keep m L i
theorem refTo_len (keep m : Nat) (L : List (Nat × Nat)) : ∀ i, (refTo keep m L i).length ≤ i
  | 0 => Nat.le_refl _
  | i + 1 => by
    unfold refTo
    have := refTo_len keep m L i
    split
    · simp; omega
    · omega

set_option maxRecDepth 100000 in
set_option maxHeartbeats 1500000 in
theorem rclose_walk (keep m : Nat) (p : Option Addr) (c : Nat) (L : List (Nat × Nat)) (w : World) (h : SliceIs w 93 2 (L.map encR) (.slice p L.length c)) (hl : L.length ≤ 1000) (hok : ∀ x ∈ L, x.1 < big ∧ x.2 < big) (hk : keep ≤ 1000) (hm : m < big) :
    Calls Try.prog 27 #[refV keep m (.slice p L.length c)] w fun e w' => ∃ rv, e = .returned (.tuple #[refV keep m (.slice none 0 0), rv]) ∧ SliceIs w' 33 3 ((refTo keep m L L.length).map encK) rv ∧ Only [] w w' ∧ (∀ b ∈ blockOf rv, w.heap.size ≤ b) := by
  obtain ⟨w1, hw1⟩ : ∃ w1, w1 = (w.alloc (.cells #[.int .i64 keep, .int .u64 m, .slice p L.length c] 66)).alloc (.cells #[.int .i64 0, .int .u64 0, .slice none 0 0] 66) := ⟨_, rfl⟩
  have o1 : Only [] w w1 := by rw [hw1]; exact ((Only.refl _ _).alloc _).alloc _
  have b0 : w1.heap[w.heap.size]? = some (.cells #[.int .i64 keep, .int .u64 m, .slice p L.length c] 66 (0, 0)) := by
    rw [hw1]; exact ((Only.refl [] _).alloc _).blk (heap_alloc_new w _) (by simp)
  have b1 : w1.heap[w.heap.size + 1]? = some (.cells #[.int .i64 0, .int .u64 0, .slice none 0 0] 66 (0, 0)) := by
    have h1 := heap_alloc_new (w.alloc (.cells #[.int .i64 keep, .int .u64 m, .slice p L.length c] 66)) (.cells #[.int .i64 0, .int .u64 0, .slice none 0 0] 66)
    rw [show (w.alloc (.cells #[.int .i64 keep, .int .u64 m, .slice p L.length c] 66)).heap.size = w.heap.size + 1 by simp] at h1
    rw [hw1]; exact h1
  have hs1 := h.only o1 (by simp)
  have hcO := order_walk keep m p c L w1 hs1 hl hok
  have H1 := Lib.hid (And.intro o1 (And.intro b0 (And.intro b1 (And.intro hs1 hok))))
  have HO := Lib.hid hcO
  have hwl : w.heap.size + 1 < w1.heap.size := lt_of_blk b1
  clear o1 b0 b1 hs1 h hok hcO
  unfold refV at HO ⊢
  go_enter Try.func27, Try.ntmps27
  go_wp2_with fail
  rw [← hw1]
  refine HO.out.mono ?_
  rintro e w2 ⟨sv2, rfl, hs2, o2, hb2⟩
  obtain ⟨O, hO⟩ : ∃ O, O = orderN (abL L) L.length := ⟨_, rfl⟩
  have hOl : O.length = L.length := by rw [hO, orderN_len]
  have hOm : ∀ x, x ∈ O ↔ x < L.length := fun x => by rw [hO]; exact orderN_mem
  rw [← hO] at hs2
  obtain ⟨q, cq, hq⟩ := hs2.form
  rw [List.length_map, hOl] at hq
  subst hq
  have H2 := Lib.hid (And.intro hs2 (And.intro o2 (And.intro hOl (And.intro hOm hO))))
  have hwl2 : w.heap.size + 1 < w2.heap.size := o2.lt hwl
  clear hs2 o2 hb2 hOl hOm hO hw1 HO
  go_wp2_with fail
  go_loopw [4, 6] (fun ov iv wr => ∃ i : Nat, iv = .int .i64 i ∧ i ≤ L.length ∧ SliceIs wr 33 3 ((refTo keep m L i).map encK) ov ∧ (∀ b ∈ blockOf ov, w2.heap.size ≤ b) ∧ Only [] w2 wr) (fun _ iv _ => L.length - (intOf iv).toNat)
  case atStart => exact ⟨0, rfl, Nat.zero_le _, .nil, by simp [blockOf], Only.refl _ _⟩
  case round =>
    obtain ⟨i, rfl, hi, hov, hbo, ow⟩ := hrel
    have hbw := ow.blk (H2.out.2.1.blk H1.out.2.1 (by simp)) (by simp)
    have hbw1 := ow.blk (H2.out.2.1.blk H1.out.2.2.1 (by simp)) (by simp)
    have c0 : wr.cell? ⟨w.heap.size, 0, none⟩ = some (.int .i64 keep) := by rw [cell_of_blk hbw]; rfl
    have c1 : wr.cell? ⟨w.heap.size, 1, none⟩ = some (.int .u64 m) := by rw [cell_of_blk hbw]; rfl
    have c2 : wr.cell? ⟨w.heap.size, 2, none⟩ = some (.slice p L.length c) := by rw [cell_of_blk hbw]; rfl
    have hwr : w.heap.size + 1 < wr.heap.size := ow.lt hwl2
    have hwr0 : w.heap.size < wr.heap.size := by omega
    have hwr1 : ¬ w.heap.size = wr.heap.size := by omega
    by_cases hil : i < L.length
    · obtain ⟨hs2, o2, hOl, hOm, hO⟩ := H2.out
      have hiO : i ∈ O := (hOm i).2 hil
      obtain ⟨k0, hk0⟩ : ∃ k0, k0 = posI i O := ⟨_, rfl⟩
      have hget := posI_get hiO
      rw [← hk0] at hget
      have hbef : ∀ q x, q < k0 → O[q]? = some x → x ≠ i := fun q x hq hx => posI_before (by rw [← hk0]; exact hq) hx
      have hk0l : k0 < L.length := by rw [← hOl]; exact (List.getElem?_eq_some_iff.1 hget).1
      obtain ⟨w3, hw3⟩ : ∃ w3, w3 = wr := ⟨_, rfl⟩
      subst hw3
      have hnext : refTo keep m L (i + 1) = if k0 < keep then refTo keep m L i ++ [refOne keep m L i] else refTo keep m L i := by
        rw [refTo, ← hO, ← hk0]
      have H3 := Lib.hid (And.intro hov (And.intro hbo (And.intro ow (And.intro hget (And.intro hbef hnext)))))
      clear hov hbo ow hbw hbw1 hs2 o2 hOl hOm hO hiO hget hbef hnext hk0
      go_wp2_with fail
      go_loop [7] (fun kv => ∃ k : Nat, kv = .int .i64 k ∧ k ≤ k0) (fun kv => k0 - (intOf kv).toNat)
      case atStart => exact ⟨0, rfl, Nat.zero_le _⟩
      case round =>
        obtain ⟨k, rfl, hk⟩ := hrel
        by_cases hkl : k < k0
        · obtain ⟨x, hx⟩ : ∃ x, O[k]? = some x := ⟨_, List.getElem?_eq_getElem (by rw [H2.out.2.2.1]; omega)⟩
          obtain ⟨g3, off3, rfl, hg3, k4⟩ := int_at H2.out.1 H3.out.2.2.1 (by simp) hx
          have hne := H3.out.2.2.2.2.1 k x hkl hx
          have tn : ((x : Int) != (i : Int)) = true := by rw [bne_iff_ne]; omega
          have hkL : (k : Int) < (L.length : Int) := by omega
          clear hx hne
          go_wp2_with fail
          go_round
          case rel => exact ⟨k + 1, by go_num, by omega⟩
          case measure => simp [intOf]; omega
        · have hke : k = k0 := by omega
          subst hke
          obtain ⟨g3, off3, rfl, hg3, k4⟩ := int_at H2.out.1 H3.out.2.2.1 (by simp) H3.out.2.2.2.1
          have hkL : (k : Int) < (L.length : Int) := by omega
          by_cases hkk : keep ≤ k
          · have t1 : decide ((keep : Int) ≤ (k : Int)) = true := decide_eq_true (by omega)
            have t1' : decide (keep ≤ k) = true := decide_eq_true hkk
            have hn := H3.out.2.2.2.2.2
            rw [if_neg (by omega)] at hn
            have HN := Lib.hid hn
            clear hn hkk
            go_wp2_with fail
            go_roundw
            case rel => exact ⟨i + 1, by go_num, by omega, by rw [HN.out]; exact H3.out.1, H3.out.2.1, H3.out.2.2.1⟩
            case measure => simp [intOf]; omega
          · have t1 : decide ((keep : Int) ≤ (k : Int)) = false := decide_eq_false (by omega)
            have t1' : decide (keep ≤ k) = false := decide_eq_false hkk
            have hn := H3.out.2.2.2.2.2
            rw [if_pos (by omega)] at hn
            have HN := Lib.hid hn
            clear hn
            obtain ⟨y, hy⟩ : ∃ y, L[i]? = some y := ⟨_, List.getElem?_eq_getElem hil⟩
            have hyD : L.getD i (0, 0) = y := by simp [List.getD, hy]
            obtain ⟨g, off, rfl, hg, k0', k1'⟩ := one_at H1.out.2.2.2.1 ((H2.out.2.1.trans H3.out.2.2.1)) (by simp) hy
            have hiL : (i : Int) < (L.length : Int) := by omega
            obtain ⟨W2, hW2⟩ : ∃ W2, W2 = w3.alloc (.cells #[.int .i64 i, .int .u64 y.1, .int .u64 1] 33) := ⟨_, rfl⟩
            have oW : Only [] w3 W2 := by rw [hW2]; exact (Only.refl _ _).alloc _
            have bk : W2.heap[w3.heap.size]? = some (.cells #[.int .i64 i, .int .u64 y.1, .int .u64 1] 33 (0, 0)) := by rw [hW2]; exact heap_alloc_new _ _
            have hlen := refTo_len keep m L i
            obtain ⟨q4, cap4, hovf⟩ := H3.out.1.form
            rw [List.length_map] at hovf
            by_cases hfull : keep < L.length
            · have t2 : decide ((keep : Int) < (L.length : Int)) = true := decide_eq_true (by omega)
              have t2' : decide (keep < L.length) = true := decide_eq_true hfull
              obtain ⟨o, ho⟩ : ∃ o, O[keep]? = some o := ⟨_, List.getElem?_eq_getElem (by rw [H2.out.2.2.1]; omega)⟩
              have hoL : o < L.length := (H2.out.2.2.2.1 o).1 (List.mem_of_getElem? ho)
              obtain ⟨z, hz⟩ : ∃ z, L[o]? = some z := ⟨_, List.getElem?_eq_getElem hoL⟩
              obtain ⟨g', off', he, _, k2', k3'⟩ := one_at H1.out.2.2.2.1 ((H2.out.2.1.trans H3.out.2.2.1)) (by simp) hz
              cases he
              obtain ⟨g5, off5, he, _, k5⟩ := int_at H2.out.1 H3.out.2.2.1 (by simp) ho
              cases he
              have hone : refOne keep m L i = ⟨i, (countN m ⟨y.1, 0, 0⟩ ⟨z.1, z.2, 0⟩).1, (countN m ⟨y.1, 0, 0⟩ ⟨z.1, z.2, 0⟩).2⟩ := by
                unfold refOne
                rw [if_pos hfull, ← H2.out.2.2.2.2, hyD]
                have h1 : O.getD keep 0 = o := by simp [List.getD, ho]
                have h2 : L.getD o (0, 0) = z := by simp [List.getD, hz]
                rw [h1, h2]
              have hyo := H1.out.2.2.2.2 y (List.mem_of_getElem? hy)
              have hzo := H1.out.2.2.2.2 z (List.mem_of_getElem? hz)
              have hcC := fun Wd => rcounts_walk y.1 z.1 z.2 m Wd hyo.1 hzo.1 hzo.2 hm
              rw [hone] at HN
              generalize (countN m ⟨y.1, 0, 0⟩ ⟨z.1, z.2, 0⟩).1 = n1 at *
              generalize (countN m ⟨y.1, 0, 0⟩ ⟨z.1, z.2, 0⟩).2 = n2 at *
              have HC := Lib.hid hcC
              have HB := Lib.hid (And.intro oW bk)
              have hkI : (keep : Int) < (L.length : Int) := by omega
              have hoI : (o : Int) < (L.length : Int) := by omega
              have hgs : g < w3.heap.size := hg
              have hg3s : g3 < w3.heap.size := hg3
              clear hcC oW bk hone hyo hzo ho hz hy hyD hfull hkk
              have HS : Hid (∀ W, Only [] W2 W → (W.cell? ⟨w.heap.size, 0, none⟩ = some (.int .i64 keep) ∧ W.cell? ⟨w.heap.size, 1, none⟩ = some (.int .u64 m) ∧ W.cell? ⟨w.heap.size, 2, none⟩ = some (.slice (some ⟨g, off, none⟩) L.length c) ∧ W.cell? ⟨g, off + i * 2, none⟩ = some (.int .u64 y.1) ∧ W.cell? ⟨g, off + o * 2, none⟩ = some (.int .u64 z.1) ∧ W.cell? ⟨g, off + o * 2 + 1, none⟩ = some (.int .u64 z.2) ∧ W.cell? ⟨g3, off3 + keep, none⟩ = some (.int .i64 o))) := Lib.hid (by
                intro W hW
                have ho := HB.out.1.trans hW
                exact ⟨ho.cell c0 (by simp), ho.cell c1 (by simp), ho.cell c2 (by simp), ho.cell k0' (by simp), ho.cell k2' (by simp), ho.cell k3' (by simp), ho.cell k5 (by simp)⟩)
              subst hovf
              go_wp2_with fail
              rw [← hW2]
              clear hW2
              go_region_held3 (fun W => W.cell? ⟨w.heap.size, 0, none⟩ = some (.int .i64 keep) ∧ W.cell? ⟨w.heap.size, 1, none⟩ = some (.int .u64 m) ∧ W.cell? ⟨w.heap.size, 2, none⟩ = some (.slice (some ⟨g, off, none⟩) L.length c) ∧ W.cell? ⟨g, off + i * 2, none⟩ = some (.int .u64 y.1) ∧ W.cell? ⟨g, off + o * 2, none⟩ = some (.int .u64 z.1) ∧ W.cell? ⟨g, off + o * 2 + 1, none⟩ = some (.int .u64 z.2) ∧ W.cell? ⟨g3, off3 + keep, none⟩ = some (.int .i64 o)) ((refine HS.out _ ?_; first | assumption | exact Only.refl _ _ | exact (Only.refl _ _).drew))
                ((go_at_call 40; refine (HC.out _).mono ?_; rintro e w5 ⟨rfl, o5⟩; have o6 := Only.trans (S := []) (a := W2) (by first | exact Only.refl _ _ | assumption | exact (Only.refl _ _).drew) o5; clear o5))
              have o65 : Only [] W2 w5 := by assumption
              have bk5 := o65.blk HB.out.2 (by simp)
              have e0 : w5.cell? ⟨w3.heap.size, 0, none⟩ = some (.int .i64 i) := by rw [cell_of_blk bk5]; rfl
              have e1 : w5.cell? ⟨w3.heap.size, 1, none⟩ = some (.int .u64 y.1) := by rw [cell_of_blk bk5]; rfl
              have e2 : w5.cell? ⟨w3.heap.size, 2, none⟩ = some (.int .u64 1) := by rw [cell_of_blk bk5]; rfl
              have f1 : w5.frozen? ⟨w3.heap.size, 1, none⟩ = false := frozen_of_blk bk5
              have f2 : w5.frozen? ⟨w3.heap.size, 2, none⟩ = false := frozen_of_blk bk5
              have e5l : w3.heap.size < w5.heap.size := lt_of_blk bk5
              have oA := HB.out.1.trans o65
              have o7 : Only [w3.heap.size] w5 ((w5.setCell ⟨w3.heap.size, 1, none⟩ (.int .u64 n1)).setCell ⟨w3.heap.size, 2, none⟩ (.int .u64 n2)) := ((Only.refl _ _).setCell (.inl (by simp)) _).setCell (.inl (by simp)) _
              have hov := H3.out.1
              have hovlt := hov.lt
              obtain ⟨g6, off6, c6, w6, hap, hs6, o8, hg6⟩ := kept_append ((hov.only oA (by simp)).only o7 (by
                intro b hb
                have := hovlt b hb
                simp only [List.mem_singleton]
                omega)) (by simp; omega) ⟨i, n1, n2⟩
              have hz6 : ((w5.setCell ⟨w3.heap.size, 1, none⟩ (.int .u64 n1)).setCell ⟨w3.heap.size, 2, none⟩ (.int .u64 n2)).heap.size = w5.heap.size := by simp
              rw [hz6, List.length_map] at hap
              rw [List.length_map] at hs6
              rw [hz6] at hg6
              have hmap : (refTo keep m L (i + 1)).map encK = (refTo keep m L i).map encK ++ [encK ⟨i, n1, n2⟩] := by rw [HN.out]; simp
              rw [← hmap] at hs6
              have hb6 : ∀ b ∈ blockOf (.slice (some ⟨g6, off6, none⟩) ((refTo keep m L i).length + 1) c6), w2.heap.size ≤ b := by
                intro b hb
                simp only [blockOf, List.mem_singleton] at hb
                subst hb
                have h1 := H3.out.2.2.1.size
                have h2 := oA.size
                rcases hg6 with h3 | h3
                · exact H3.out.2.1 _ h3
                · omega
              have oE : Only [] w2 w6 := ((H3.out.2.2.1.trans oA).trans' o7 (fun x hx hlt => by
                simp only [List.mem_singleton] at hx
                have := H3.out.2.2.1.size
                omega)).trans' o8 (fun x hx hlt => by have := H3.out.2.1 x hx; omega)
              have HE := Lib.hid (And.intro hs6 (And.intro hb6 oE))
              clear hs6 hb6 oE hmap o8 hg6 hz6 o7 oA bk5 o65 hov hovlt
              go_wp2_with fail
              go_roundw
              case rel => exact ⟨i + 1, by go_num, by omega, HE.out.1, HE.out.2.1, HE.out.2.2⟩
              case measure => simp [intOf]; omega
            · have t2 : decide ((keep : Int) < (L.length : Int)) = false := decide_eq_false (by omega)
              have t2' : decide (keep < L.length) = false := decide_eq_false hfull
              have hone : refOne keep m L i = ⟨i, y.1, 1⟩ := by unfold refOne; rw [if_neg hfull, hyD]
              rw [hone] at HN
              obtain ⟨g6, off6, c6, w6, hap, hs6, o6, hg6⟩ := kept_append (H3.out.1.only oW (by simp)) (by simp; omega) ⟨i, y.1, 1⟩
              have hz6 : W2.heap.size = w3.heap.size + 1 := by rw [hW2]; simp
              rw [hz6, List.length_map] at hap
              rw [List.length_map] at hs6
              have hmap : (refTo keep m L (i + 1)).map encK = (refTo keep m L i).map encK ++ [encK ⟨i, y.1, 1⟩] := by rw [HN.out]; simp
              rw [← hmap] at hs6
              have hb6 : ∀ b ∈ blockOf (.slice (some ⟨g6, off6, none⟩) ((refTo keep m L i).length + 1) c6), w2.heap.size ≤ b := by
                intro b hb
                simp only [blockOf, List.mem_singleton] at hb
                subst hb
                have h1 := H3.out.2.2.1.size
                rcases hg6 with h3 | h3
                · exact H3.out.2.1 _ h3
                · omega
              have oE : Only [] w2 w6 := (H3.out.2.2.1.trans oW).trans' o6 (fun x hx hlt => by have := H3.out.2.1 x hx; omega)
              have HE := Lib.hid (And.intro hs6 (And.intro hb6 oE))
              subst hovf
              subst hW2
              clear hs6 hb6 oE hmap o6 hg6 hone oW bk hy hyD hfull hkk hz6
              rw [show ((1 : Nat) : Int) = 1 from rfl] at hap
              go_wp2_with fail
              go_roundw
              case rel => exact ⟨i + 1, by go_num, by omega, HE.out.1, HE.out.2.1, HE.out.2.2⟩
              case measure => simp [intOf]; omega
    · have hie : i = L.length := by omega
      subst hie
      have HE := Lib.hid (And.intro hov (And.intro hbo ow))
      have d0 : wr.cell? ⟨w.heap.size + 1, 0, none⟩ = some (.int .i64 0) := by rw [cell_of_blk hbw1]; rfl
      have d1 : wr.cell? ⟨w.heap.size + 1, 1, none⟩ = some (.int .u64 0) := by rw [cell_of_blk hbw1]; rfl
      have d2 : wr.cell? ⟨w.heap.size + 1, 2, none⟩ = some (.slice none 0 0) := by rw [cell_of_blk hbw1]; rfl
      have fd : ∀ i, wr.frozen? ⟨w.heap.size + 1, i, none⟩ = false := fun i => frozen_of_blk hbw1
      obtain ⟨q4, cap4, hovf⟩ := hov.form
      subst hovf
      clear hov hbo ow hbw hbw1
      go_wp2_with fail
      refine bodyPost_ret (v := .tuple #[.agg #[.int .i64 keep, .int .u64 m, .slice none 0 0], .slice q4 ((refTo keep m L L.length).map encK).length cap4]) (by simp [results, Try.results27, go_sem, *]) rfl ⟨_, rfl, HE.out.1.only (S := [w.heap.size + 1]) ((((Only.refl _ _).setCell (.inl (by simp)) _).setCell (.inl (by simp)) _).setCell (.inl (by simp)) _) (fun b hb => by have := HE.out.2.1 b hb; simp only [List.mem_singleton]; omega), ?_, fun b hb => ?_⟩
      · exact (((((H1.out.1.trans H2.out.2.1).trans HE.out.2.2).setCell (.inr (by simp)) _).setCell (.inr (by simp)) _).setCell (.inr (by simp)) _)
      · have h1 := HE.out.2.1 b hb; have h2 := (H1.out.1.trans H2.out.2.1).size; omega

end Go.Proofs.Ytbboklmmnnedjaa
