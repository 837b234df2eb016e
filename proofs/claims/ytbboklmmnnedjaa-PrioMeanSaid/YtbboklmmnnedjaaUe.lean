/- The document's answer of layer 11, walked: New, Add. -/
import Derived.Test.YtbboklmmnnedjaaUd
set_option linter.unusedVariables false
set_option linter.unusedSimpArgs false
namespace Go.Proofs.Ytbboklmmnnedjaa
open Go.RowKit Go.Mk Go.Pr
attribute [-go_sem] Builtin.append_

def encR (x : Nat × Nat) : List Value := [.int .u64 x.1, .int .u64 x.2]
def refV (keep m : Nat) (sv : Value) : Value := .agg #[.int .i64 keep, .int .u64 m, sv]

theorem info_one : ∃ i, Try.prog.info? 93 = some i ∧ i.zero = some (.agg #[.int .u64 0, .int .u64 0]) ∧ i.size = 2 ∧ i.bytes = 16 := by
  obtain ⟨i0, hi, hz0, hz1, hz2⟩ := info_parts (P := Try.prog) (e := 93) (z := .agg #[.int .u64 0, .int .u64 0]) (size := 2) (bytes := 16) (by kernel_rfl)
  exact ⟨i0, hi, hz0, hz1, hz2⟩

theorem rnew_walk (keep m : Nat) (w : World) (h1 : 1 ≤ keep) (h2 : keep ≤ 1000) (hm : m < 18446744073709551616) :
    Calls Try.prog 25 #[.int .i64 keep, .int .u64 m] w fun e w' => e = .returned (.tuple #[refV keep m (.slice none 0 0), .bool true]) ∧ Only [] w w' := by
  have t1 : decide ((1 : Int) ≤ (keep : Int)) = true := decide_eq_true (by omega)
  have t1' : decide (1 ≤ keep) = true := decide_eq_true (by omega)
  have t2 : decide ((keep : Int) ≤ 1000) = true := decide_eq_true (by omega)
  have t2' : decide (keep ≤ 1000) = true := decide_eq_true (by omega)
  unfold refV
  go_enter Try.func25, Try.ntmps25
  go_wp2_with fail
  all_goals exact bodyPost_ret (v := .tuple #[.agg #[.int .i64 keep, .int .u64 m, .slice none 0 0], .bool true]) (by simp [results, Try.results25, go_sem, *]) rfl ⟨rfl, by first | exact (Only.refl _ _).alloc _ | exact ((Only.refl _ _).alloc _).drew⟩

theorem radd_refuse (keep m : Nat) (p : Option Addr) (n c : Nat) (x d : Nat) (w : World) (h : x = 0 ∨ 4294967296 < x) (hx : x < 18446744073709551616) :
    Calls Try.prog 26 #[refV keep m (.slice p n c), .int .u64 x, .int .u64 d] w fun e w' => e = .returned (.tuple #[refV keep m (.slice p n c), .int .i64 (-1), .int .i64 1]) ∧ Only [] w w' := by
  have oE : Only [] w (((w.alloc (.cells #[.int .i64 keep, .int .u64 m, .slice p n c] 66)).alloc (.cells #[.int .i64 keep, .int .u64 m, .slice p n c] 66))) := ((Only.refl _ _).alloc _).alloc _
  have HO := Lib.hid oE
  clear oE
  unfold refV
  by_cases h0 : x < 1
  · have t1 : decide ((x : Int) < 1) = true := decide_eq_true (by omega)
    have t1' : decide (x < 1) = true := decide_eq_true h0
    go_enter Try.func26, Try.ntmps26
    go_wp2_with fail
    exact bodyPost_ret (v := .tuple #[.agg #[.int .i64 keep, .int .u64 m, .slice p n c], .int .i64 (-1), .int .i64 1]) (by simp [results, Try.results26, go_sem, *]) rfl ⟨rfl, HO.out⟩
  · have t1 : decide ((x : Int) < 1) = false := decide_eq_false (by omega)
    have t1' : decide (x < 1) = false := decide_eq_false h0
    have t2 : decide ((4294967296 : Int) < (x : Int)) = true := decide_eq_true (by omega)
    have t2' : decide (4294967296 < x) = true := decide_eq_true (by omega)
    go_enter Try.func26, Try.ntmps26
    go_wp2_with fail
    exact bodyPost_ret (v := .tuple #[.agg #[.int .i64 keep, .int .u64 m, .slice p n c], .int .i64 (-1), .int .i64 1]) (by simp [results, Try.results26, go_sem, *]) rfl ⟨rfl, HO.out⟩

/-- One more, of those that were there. -/
theorem one_append {w : World} {xs : List (List Value)} {sv : Value} (h : SliceIs w 93 2 xs sv) (hl : xs.length ≤ 100000) (x : Nat × Nat) :
    ∃ g off cap' w', (Builtin.append_ #[64, 64] 64 #[sv, .slice (some ⟨w.heap.size, 0, none⟩) 1 1]).run Try.prog (w.alloc (.cells #[.int .u64 x.1, .int .u64 x.2] 93)) = .ok (.slice (some ⟨g, off, none⟩) (xs.length + 1) cap') w' ∧
      SliceIs w' 93 2 (xs ++ [encR x]) (.slice (some ⟨g, off, none⟩) (xs.length + 1) cap') ∧ Only (blockOf sv) w w' ∧ (g ∈ blockOf sv ∨ w.heap.size ≤ g) := by
  obtain ⟨i0, hi0, hz0, hz1, hz2⟩ := info_one
  exact row_append1 Try.underlying64 hi0 hz0 hz1 hz2 rfl (by decide) h hl #[.int .u64 x.1, .int .u64 x.2] rfl (by simp [Value.oneCell'])

set_option maxRecDepth 100000 in
set_option maxHeartbeats 2000000 in
theorem radd_walk (keep m : Nat) (sv : Value) (L : List (Nat × Nat)) (x d : Nat) (w : World) (h : SliceIs w 93 2 (L.map encR) sv) (hl : L.length ≤ 1000) (h1 : 1 ≤ x) (h2 : x ≤ 4294967296) (hm : m < 18446744073709551616) (hd : d < 18446744073709551616) :
    Calls Try.prog 26 #[refV keep m sv, .int .u64 x, .int .u64 d] w fun e w' => ∃ sv', e = .returned (.tuple #[refV keep m sv', .int .i64 L.length, .int .i64 0]) ∧ SliceIs w' 93 2 ((L ++ [(x, drawn m d)]).map encR) sv' ∧ Only [] w w' ∧ (∀ b ∈ blockOf sv', w.heap.size ≤ b) := by
  have t1 : decide ((x : Int) < 1) = false := decide_eq_false (by omega)
  have t1' : decide (x < 1) = false := decide_eq_false (by omega)
  have t2 : decide ((4294967296 : Int) < (x : Int)) = false := decide_eq_false (by omega)
  have t2' : decide (4294967296 < x) = false := decide_eq_false (by omega)
  obtain ⟨W0, hW0⟩ : ∃ W0, W0 = (w.alloc (.cells #[.int .i64 keep, .int .u64 m, sv] 66)).alloc (.cells #[.int .i64 0, .int .u64 0, .slice none 0 0] 66) := ⟨_, rfl⟩
  have o0 : Only [] w W0 := by rw [hW0]; exact ((Only.refl _ _).alloc _).alloc _
  have b0 : W0.heap[w.heap.size]? = some (.cells #[.int .i64 keep, .int .u64 m, sv] 66 (0, 0)) := by
    rw [hW0]; exact ((Only.refl [] _).alloc _).blk (heap_alloc_new w _) (by simp)
  have b1 : W0.heap[w.heap.size + 1]? = some (.cells #[.int .i64 0, .int .u64 0, .slice none 0 0] 66 (0, 0)) := by
    have h1 := heap_alloc_new (w.alloc (.cells #[.int .i64 keep, .int .u64 m, sv] 66)) (.cells #[.int .i64 0, .int .u64 0, .slice none 0 0] 66)
    rw [show (w.alloc (.cells #[.int .i64 keep, .int .u64 m, sv] 66)).heap.size = w.heap.size + 1 by simp] at h1
    rw [hW0]; exact h1
  obtain ⟨i0, hi0, hz0, hz1, hz2⟩ := info_one
  obtain ⟨p, c, hsv⟩ := h.form
  rw [List.length_map] at hsv
  have hs0 : SliceIs W0 93 2 (L.map encR) (.slice p (L.map encR).length c) := by
    rw [List.length_map, ← hsv]; exact h.only o0 (by simp)
  obtain ⟨g1, c1, w1, hap1, hs1, o1, hb1⟩ := rows_append (P := Try.prog) Try.underlying64 hi0 hz0 hz1 hz2 rfl (by decide) (xs := []) (sv := .slice none 0 0) SliceIs.nil hs0 (by simp; omega) (by
    intro y hy u hu
    obtain ⟨x, _, rfl⟩ := List.mem_map.1 hy
    simp only [encR, List.mem_cons, List.not_mem_nil, or_false] at hu
    rcases hu with rfl | rfl <;> rfl)
  rw [List.nil_append] at hs1
  simp only [List.length_nil, Nat.zero_add, List.length_map] at hap1 hs1 hb1
  obtain ⟨g2, off2, c2, w2, hap2, hs2, o2, hg2⟩ := one_append hs1 (by simp; omega) (x, drawn m d)
  simp only [List.length_map] at hap2 hs2 hg2
  have o01 : Only [] W0 w1 := o1.mono (by simp [blockOf])
  have o02 : Only [] W0 w2 := o01.trans' o2 (fun b hb hlt => by
    rcases hb1 b hb with h3 | h3
    · simp [blockOf] at h3
    · omega)
  have q0 := o02.blk b0 (by simp)
  have q1 := o02.blk b1 (by simp)
  have c00 : w2.cell? ⟨w.heap.size, 0, none⟩ = some (.int .i64 keep) := by rw [cell_of_blk q0]; rfl
  have c01 : w2.cell? ⟨w.heap.size, 1, none⟩ = some (.int .u64 m) := by rw [cell_of_blk q0]; rfl
  have c02 : w2.cell? ⟨w.heap.size, 2, none⟩ = some sv := by rw [cell_of_blk q0]; rfl
  have c10 : w2.cell? ⟨w.heap.size + 1, 0, none⟩ = some (.int .i64 0) := by rw [cell_of_blk q1]; rfl
  have c11 : w2.cell? ⟨w.heap.size + 1, 1, none⟩ = some (.int .u64 0) := by rw [cell_of_blk q1]; rfl
  have c12 : w2.cell? ⟨w.heap.size + 1, 2, none⟩ = some (.slice none 0 0) := by rw [cell_of_blk q1]; rfl
  have f10 : ∀ i, w2.frozen? ⟨w.heap.size + 1, i, none⟩ = false := fun i => frozen_of_blk q1
  have hl2 := lt_of_blk q1
  have hmap : (L ++ [(x, drawn m d)]).map encR = L.map encR ++ [encR (x, drawn m d)] := by simp
  have oS : ∀ u v z, Only [] w ((((w2.setCell ⟨w.heap.size + 1, 0, none⟩ u).setCell ⟨w.heap.size + 1, 1, none⟩ v).setCell ⟨w.heap.size + 1, 2, none⟩ z)) := fun u v z => (((o0.trans o02).setCell (.inr (by simp)) _).setCell (.inr (by simp)) _).setCell (.inr (by simp)) _
  have oS2 : ∀ u v z, SliceIs ((((w2.setCell ⟨w.heap.size + 1, 0, none⟩ u).setCell ⟨w.heap.size + 1, 1, none⟩ v).setCell ⟨w.heap.size + 1, 2, none⟩ z)) 93 2 ((L ++ [(x, drawn m d)]).map encR) (.slice (some ⟨g2, off2, none⟩) (L.length + 1) c2) := fun u v z => by
    rw [hmap]
    refine hs2.only (S := [w.heap.size + 1]) ((((Only.refl _ _).setCell (.inl (by simp)) _).setCell (.inl (by simp)) _).setCell (.inl (by simp)) _) (fun b hb => ?_)
    simp only [blockOf, List.mem_singleton] at hb ⊢
    subst hb
    have h1l : w.heap.size + 1 < W0.heap.size := lt_of_blk b1
    rcases hg2 with h3 | h3
    · rcases hb1 _ h3 with h4 | h4
      · simp [blockOf] at h4
      · omega
    · have := o01.size; omega
  have hnb : ∀ b ∈ blockOf (.slice (some ⟨g2, off2, none⟩) (L.length + 1) c2), w.heap.size ≤ b := by
    intro b hb
    simp only [blockOf, List.mem_singleton] at hb
    subst hb
    have h0s := o0.size
    rcases hg2 with h3 | h3
    · rcases hb1 _ h3 with h4 | h4
      · simp [blockOf] at h4
      · omega
    · have := o01.size; omega
  have HS := Lib.hid (And.intro oS (And.intro oS2 hnb))
  have hb0 : W0.cell? ⟨w.heap.size, 1, none⟩ = some (.int .u64 m) := by rw [cell_of_blk b0]; rfl
  have hb2 : W0.cell? ⟨w.heap.size, 2, none⟩ = some (.slice p L.length c) := by rw [cell_of_blk b0, ← hsv]; rfl
  subst hsv
  clear oS oS2 hmap q0 q1 o02 o01 hs2 o2 hg2 hs1 o1 hb1 hs0 b0 b1 o0 h i0 hi0 hz0 hz1 hz2
  subst hW0
  unfold refV
  by_cases hz : m = 0
  · have td : drawn m d = d := if_pos hz
    have tm : decide ((0 : Int) < (m : Int)) = false := decide_eq_false (by omega)
    have tm' : decide (0 < m) = false := decide_eq_false (by omega)
    rw [td] at hap2
    clear hz td
    go_enter Try.func26, Try.ntmps26
    go_wp2_with fail
    go_region
    all_goals go_wp2_with fail
    all_goals exact bodyPost_ret (v := .tuple #[.agg #[.int .i64 keep, .int .u64 m, .slice (some ⟨g2, off2, none⟩) (L.length + 1) c2], .int .i64 L.length, .int .i64 0]) (by simp [results, Try.results26, go_sem, *]) rfl ⟨_, rfl, (HS.out.2.1 _ _ _).only ((Only.refl [] _).drew) (by simp), (HS.out.1 _ _ _).drew, HS.out.2.2⟩
  · have td : drawn m d = d % m := if_neg hz
    have tm : decide ((0 : Int) < (m : Int)) = true := decide_eq_true (by omega)
    have tm' : decide (0 < m) = true := decide_eq_true (by omega)
    have hm0 : 0 < m := by omega
    have hc : ((d % m : Nat) : Int) = (d : Int) % (m : Int) := by simp
    rw [td, hc] at hap2
    clear hz td hc
    go_enter Try.func26, Try.ntmps26
    go_wp2_with fail
    go_region
    all_goals go_wp2_with fail
    all_goals exact bodyPost_ret (v := .tuple #[.agg #[.int .i64 keep, .int .u64 m, .slice (some ⟨g2, off2, none⟩) (L.length + 1) c2], .int .i64 L.length, .int .i64 0]) (by simp [results, Try.results26, go_sem, *]) rfl ⟨_, rfl, (HS.out.2.1 _ _ _).only ((Only.refl [] _).drew) (by simp), (HS.out.1 _ _ _).drew, HS.out.2.2⟩

end Go.Proofs.Ytbboklmmnnedjaa
