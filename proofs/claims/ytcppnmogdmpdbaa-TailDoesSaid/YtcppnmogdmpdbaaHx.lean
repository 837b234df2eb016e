/- The methods of telemeter/heap's Heap, walked: it is a list of timers in order, whatever is put in and taken out. -/
import Derived.Test.YtcppnmogdmpdbaaHw
set_option linter.unusedVariables false
set_option linter.unusedSimpArgs false
namespace Go.Proofs.Ytcppnmogdmpdbaa
open Go.RowKit Go.Mk Go.Hp

theorem RowAt.lts {w : World} {hp bm : Nat} {most : Int} {sv : Value} {L : List Tm} (h : RowAt w hp bm most sv L) : ∀ b ∈ hp :: bm :: blockOf sv, b < w.heap.size := by
  intro b hb
  rcases List.mem_cons.1 hb with rfl | hb
  · exact lt_of_cell h.c0
  · rcases List.mem_cons.1 hb with rfl | hb
    · obtain ⟨ms, clock, hm, _⟩ := h.mp
      exact lt_of_blk hm.blk
    · exact h.sl.lt b hb

set_option maxRecDepth 100000 in
set_option maxHeartbeats 1000000 in
theorem heap_take {w : World} {hp bm : Nat} {most : Int} {sv : Value} {L : List Tm} (h : RowAt w hp bm most sv L) (hH : HeapN (atL L) L.length) {i : Nat} {a : Tm} (ha : L[i]? = some a) (hlen : L.length ≤ 10000) (I : Int) (hI : I = i) :
    Calls Try.prog 44 #[.pointer (some ⟨hp, 0, none⟩), .int .i64 I] w fun e w' =>
      e = .returned (.agg #[.int .i64 a.1, .int .i64 a.2]) ∧ ∃ sv' L', RowAt w' hp bm most sv' L' ∧ HeapN (atL L') L'.length ∧ (a :: L').Perm L ∧ Only (hp :: bm :: blockOf sv) w w' ∧ blockOf sv' = blockOf sv := by
  subst hI
  have hta := assert_timer
  have hmi : ∀ (v : Value) (w : World), (Instr.makeInterface 101 v).run Try.prog w = .ok (.iface 101 v) w := fun v w => by
    simp [Instr.makeInterface, run_underlying Try.underlying101]
  have hc0 := h.c0
  have hhl := lt_of_cell h.c0
  have Hh := Lib.hid h
  have HH := Lib.hid hH
  have Hha := Lib.hid ha
  have Hlen := Lib.hid hlen
  clear h hH ha hlen
  go_enter Try.func44, Try.ntmps44
  go_wp2_with fail
  refine (heap_remove (Hh.out.only ((Only.refl [] _).alloc _) (by simp) (by simp) (by simp)) HH.out Hha.out Hlen.out _ rfl).mono ?_
  rintro e w1 ⟨rfl, sv1, L1, hR1, hH1, hP1, ho1, hb1⟩
  have hnb := ho1.newblk (fun b hb => Hh.out.lts b hb)
  have k0 : w1.cell? ⟨w.heap.size, 0, none⟩ = some (.int .i64 0) := by rw [cell_of_blk hnb]; rfl
  have k1 : w1.cell? ⟨w.heap.size, 1, none⟩ = some (.int .i64 0) := by rw [cell_of_blk hnb]; rfl
  have f0 : w1.frozen? ⟨w.heap.size, 0, none⟩ = false := frozen_of_blk hnb
  have f1 : w1.frozen? ⟨w.heap.size, 1, none⟩ = false := frozen_of_blk hnb
  have hlt1 := lt_of_blk hnb
  clear hnb
  go_wp2_with fail
  have g0 : (((w1.setCell ⟨w.heap.size, 0, none⟩ (.int .i64 a.1)).setCell ⟨w.heap.size, 1, none⟩ (.int .i64 a.2)).alloc (.cells #[.int .i64 a.1, .int .i64 a.2] 30)).cell? ⟨w.heap.size, 0, none⟩ = some (.int .i64 a.1) :=
    cell_alloc _ (by rw [World.cell?_setCell_other _ _ _ _ (by simp)]; exact World.cell?_setCell_same _ _ _ k0)
  have g1 : (((w1.setCell ⟨w.heap.size, 0, none⟩ (.int .i64 a.1)).setCell ⟨w.heap.size, 1, none⟩ (.int .i64 a.2)).alloc (.cells #[.int .i64 a.1, .int .i64 a.2] 30)).cell? ⟨w.heap.size, 1, none⟩ = some (.int .i64 a.2) :=
    cell_alloc _ (World.cell?_setCell_same _ _ _ (by rw [World.cell?_setCell_other _ _ _ _ (by simp)]; exact k1))
  have o2 : Only [w.heap.size] w1 (((w1.setCell ⟨w.heap.size, 0, none⟩ (.int .i64 a.1)).setCell ⟨w.heap.size, 1, none⟩ (.int .i64 a.2)).alloc (.cells #[.int .i64 a.1, .int .i64 a.2] 30)) :=
    (((Only.refl _ _).setCell (.inl (by simp)) _).setCell (.inl (by simp)) _).alloc _
  have hl := Hh.out.lts
  refine bodyPost_ret (v := .agg #[.int .i64 a.1, .int .i64 a.2]) (by simp [results, Try.results44, go_sem, g0, g1]) rfl ⟨rfl, sv1, L1, hR1.only o2 ?_ ?_ ?_, hH1, hP1, ?_, hb1⟩
  · have := hl hp (by simp); simp; omega
  · have := hl bm (by simp); simp; omega
  · intro b hb; rw [hb1] at hb; have := hl b (by simp [hb]); simp; omega
  · exact (((Only.refl _ _).alloc _).trans ho1).trans' o2 (by simp)

end Go.Proofs.Ytcppnmogdmpdbaa
