/- container/heap's Push and Pop over a row of offers, walked: the heap stays one. -/
import Derived.Test.YtbboklmmnnedjaaPe
set_option linter.unusedVariables false
set_option linter.unusedSimpArgs false
namespace Go.Proofs.Ytbboklmmnnedjaa
open Go.RowKit Go.Mk Go.Pr

theorem least_len {w : World} {hp : Nat} {rest : List Value} {T : TypeId} {sv : Value} {L : List Of} (h : LeastAt w hp rest T sv L) :
    Calls Try.prog 83 #[sv] w fun e w' => e = .returned (.int .i64 L.length) ∧ w' = w := by
  obtain ⟨p, cap, hsv⟩ := h.sl.form
  rw [List.length_map] at hsv
  subst hsv
  exact len_walk p L.length cap w

theorem atL_append {L : List Of} {t : Of} {k : Nat} (h : k < L.length) : atL (L ++ [t]) k = atL L k := by
  unfold atL; rw [List.getD, List.getElem?_append_left h]; rfl
theorem heapN_congr {f g : Nat → Of} {n : Nat} (h : HeapN f n) (e : ∀ k, k < n → g k = f k) : HeapN g n := by
  intro k h0 hk
  rw [e k hk, e _ (by omega)]
  exact h k h0 hk
theorem snoc_of_get {L : List Of} {n : Nat} {a : Of} (hl : L.length = n + 1) (ha : L[n]? = some a) : L = L.take n ++ [a] := by
  have h1 : L.take (n + 1) = L := List.take_of_length_le (by omega)
  rw [List.take_add_one, ha] at h1
  exact h1.symm

set_option maxRecDepth 100000 in
set_option maxHeartbeats 1000000 in
theorem heap_push {w : World} {hp : Nat} {rest : List Value} {T : TypeId} {sv : Value} {L : List Of} (h : LeastAt w hp rest T sv L) (hH : HeapN (atL L) L.length) (o : Of) (hok : OfOk o) (hlen : L.length ≤ 10000) :
    Calls Try.prog 20 #[.iface 58 (.pointer (some ⟨hp, 0, none⟩)), .iface 56 (ofV o)] w fun e w' =>
      e = .returned (.tuple #[]) ∧ ∃ sv' L', LeastAt w' hp rest T sv' L' ∧ HeapN (atL L') L'.length ∧ L'.Perm (o :: L) ∧ Only (hp :: blockOf sv) w w' ∧ (∀ b ∈ blockOf sv', b ∈ blockOf sv ∨ w.heap.size ≤ b) := by
  have m2 := meth_Push
  have Hlen := Lib.hid hlen
  have Hok := Lib.hid hok
  clear hlen hok
  go_enter Try.func20, Try.ntmps20
  go_wp2_with fail
  refine (least_push h o Hok.out (by have := Hlen.out; omega)).mono ?_
  rintro e w1 ⟨rfl, sv1, hR1, ho1, hb1⟩
  have m1 := meth_Len hR1.c0
  go_wp2_with fail
  have hll : (L ++ [o]).length = L.length + 1 := by simp
  refine (least_len hR1).mono ?_
  rintro e w2 ⟨rfl, hw2⟩
  subst hw2
  have hL6 : (L.length : Int) ≤ 10000 := by have := Hlen.out; omega
  go_wp2_with fail
  have hup : UpI (atL (L ++ [o])) (L.length + 1) L.length := up_start (heapN_congr hH (fun k hk => atL_append hk))
  refine (heap_up hR1 hup (by omega) (by omega) (by have := Hlen.out; omega) _ rfl).mono ?_
  rintro e w2 ⟨rfl, L', hR2, hH2, hP2, _, ho2⟩
  go_wp2_with fail
  go_end0
  refine ⟨rfl, sv1, L', hR2, ?_, hP2.trans (List.perm_append_comm (l₁ := L) (l₂ := [o])), ho1.trans' ho2 ?_, hb1⟩
  · rw [hP2.length_eq, hll]; exact hH2
  · intro x hx hlt
    rcases hb1 x hx with h1 | h1
    · simp [h1]
    · omega

set_option maxRecDepth 100000 in
set_option maxHeartbeats 2000000 in
/-- Pop, of a row of two or more: the least one comes out. -/
theorem heap_pop {w : World} {hp : Nat} {rest : List Value} {T : TypeId} {sv : Value} {L : List Of} (h : LeastAt w hp rest T sv L) (hH : HeapN (atL L) L.length) {a : Of} (ha : L[0]? = some a) (h2 : 2 ≤ L.length) (hlen : L.length ≤ 10000) :
    Calls Try.prog 21 #[.iface 58 (.pointer (some ⟨hp, 0, none⟩))] w fun e w' =>
      e = .returned (.iface 56 (ofV a)) ∧ ∃ sv' L', LeastAt w' hp rest T sv' L' ∧ HeapN (atL L') L'.length ∧ (a :: L').Perm L ∧ Only (hp :: blockOf sv) w w' ∧ blockOf sv' = blockOf sv := by
  obtain ⟨n, hn⟩ : ∃ n, L.length = n + 1 := ⟨L.length - 1, by omega⟩
  have hn6 : (n : Int) ≤ 10000 := by omega
  have h1n : 1 ≤ n := by omega
  have m2 := meth_Pop
  have m1 := meth_Len h.c0
  have m3 := meth_Swap h.c0
  have cL := least_len h
  rw [hn] at cL
  have HcL := Lib.hid cL
  have Hha := Lib.hid ha
  have Hn := Lib.hid hn
  have H1n := Lib.hid h1n
  have hz := get_atL (L := L) (i := n) (by omega)
  have Hz := Lib.hid hz
  clear cL ha hn hz h2 hlen h1n
  go_enter Try.func21, Try.ntmps21
  go_wp2_with fail
  refine HcL.out.mono ?_
  rintro e w2 ⟨rfl, hw2⟩
  subst hw2
  go_wp2_with fail
  refine (least_swap h Hha.out Hz.out (by have := H1n.out; omega) _ _ rfl rfl).mono ?_
  rintro e w1 ⟨rfl, hR1, ho1⟩
  go_wp2_with fail
  have h1n := H1n.out
  have hsl : (swapL L 0 n a (atL L n)).length = n + 1 := by rw [swapL_len]; exact Hn.out
  have hsat := swapL_at Hha.out Hz.out (show 0 ≠ n by omega)
  have hds : DownI (atL (swapL L 0 n a (atL L n))) n 0 0 := by rw [hsat]; exact down_start (by have h2 := hH; rw [Hn.out] at h2; exact h2) (by omega)
  have hla : atL (swapL L 0 n a (atL L n)) n = a := by rw [hsat, swapF, if_pos rfl]; exact atL_get Hha.out
  have hpm := swapL_perm Hha.out Hz.out (show 0 ≠ n by omega)
  generalize hS : swapL L 0 n a (atL L n) = L1 at *
  have Hsl := Lib.hid hsl
  have Hla := Lib.hid hla
  clear hS hsl hsat hla
  have fin : ∀ (L2 : List Of), HeapN (atL L2) n → L2.Perm L1 → (∀ k, n ≤ k → atL L2 k = atL L1 k) → ∃ L3, L2 = L3 ++ [a] ∧ L3.length = n ∧ HeapN (atL L3) L3.length ∧ (a :: L3).Perm L := by
    intro L2 g1 g2 g3
    have hl2 : L2.length = n + 1 := by rw [g2.length_eq]; exact Hsl.out
    have hg : L2[n]? = some a := by rw [get_atL (by omega), g3 n (Nat.le_refl _), Hla.out]
    have hsn := snoc_of_get hl2 hg
    have hl3 : (L2.take n).length = n := by rw [List.length_take]; omega
    refine ⟨L2.take n, hsn, hl3, ?_, ?_⟩
    · rw [hl3]
      intro k h0 hk
      have h3 := g1 k h0 hk
      rw [hsn, atL_append (by omega), atL_append (by omega)] at h3
      exact h3
    · have h4 : (a :: L2.take n).Perm (L2.take n ++ [a]) := List.perm_append_comm (l₁ := [a])
      rw [← hsn] at h4
      exact (h4.trans g2).trans hpm
  have Hfin := Lib.hid fin
  clear fin
  refine (heap_down hR1 hds (by omega) (by have := Hsl.out; omega) (by have := Hsl.out; omega) _ _ rfl rfl).mono ?_
  rintro e w3 ⟨moved, rfl, L2, hR2, hm1, hm2, hP2, hk2, ho2⟩
  have hH2 : HeapN (atL L2) n := by
    cases moved with
    | true => exact hm1 rfl
    | false => exact up_stop (hm2 rfl) (.inl rfl)
  obtain ⟨L3, hL3, hl3, hH3, hP3⟩ := Hfin.out L2 hH2 hP2 hk2
  rw [hL3] at hR2
  have HL3 := Lib.hid (And.intro hl3 (And.intro hH3 hP3))
  clear hL3 hl3 hH3 hP3 hP2 hk2 hm1 hm2 hH2 hpm hds Hfin
  go_wp2_with fail
  refine (least_pop hR2 (by have := HL3.out.1; omega)).mono ?_
  rintro e w4 ⟨rfl, sv4, hR4, ho4, hb4⟩
  go_wp2_with fail
  go_ret
  refine ⟨rfl, sv4, L3, hR4, HL3.out.2.1, HL3.out.2.2, ?_, hb4⟩
  exact ((ho1.trans ho2).mono (by intro x hx _; exact List.mem_cons_of_mem _ hx)).trans' ho4 (by intro x hx _; simp only [List.mem_singleton] at hx; subst hx; simp)

end Go.Proofs.Ytbboklmmnnedjaa
