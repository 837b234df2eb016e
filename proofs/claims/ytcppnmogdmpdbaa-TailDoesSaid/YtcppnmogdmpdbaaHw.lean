/- container/heap's Push and Remove over telemeter/heap's row, walked: the heap stays one, with the timer more or less. -/
import Derived.Test.YtcppnmogdmpdbaaHv
set_option linter.unusedVariables false
set_option linter.unusedSimpArgs false
namespace Go.Proofs.Ytcppnmogdmpdbaa
open Go.RowKit Go.Mk Go.Hp

theorem row_len' {w : World} {hp bm : Nat} {most : Int} {sv : Value} {L : List Tm} (h : RowAt w hp bm most sv L) :
    Calls Try.prog 45 #[.pointer (some ⟨hp, 0, none⟩)] w fun e w' => e = .returned (.int .i64 L.length) ∧ w = w' := by
  obtain ⟨p, cap, hsv⟩ := h.sl.form
  rw [List.length_map] at hsv
  subst hsv
  exact row_len hp p L.length cap w h.c0

theorem atL_append {L : List Tm} {t : Tm} {k : Nat} (h : k < L.length) : atL (L ++ [t]) k = atL L k := by
  unfold atL; rw [List.getD, List.getElem?_append_left h]; rfl
theorem heapN_congr {f g : Nat → Tm} {n : Nat} (h : HeapN f n) (e : ∀ k, k < n → g k = f k) : HeapN g n := by
  intro k h0 hk
  rw [e k hk, e _ (by omega)]
  exact h k h0 hk
set_option maxRecDepth 100000 in
set_option maxHeartbeats 1000000 in
theorem heap_push {w : World} {hp bm : Nat} {most : Int} {sv : Value} {L : List Tm} (h : RowAt w hp bm most sv L) (hH : HeapN (atL L) L.length) (t : Tm) (hnew : ∀ (i : Nat) (a : Tm), L[i]? = some a → a.2 ≠ t.2) (hlen : L.length ≤ 10000) :
    Calls Try.prog 43 #[.iface 101 (.pointer (some ⟨hp, 0, none⟩)), .iface 30 (.agg #[.int .i64 t.1, .int .i64 t.2])] w fun e w' =>
      e = .returned (.tuple #[]) ∧ ∃ sv' L', RowAt w' hp bm most sv' L' ∧ HeapN (atL L') L'.length ∧ L'.Perm (t :: L) ∧ Only (hp :: bm :: blockOf sv) w w' ∧ (∀ b ∈ blockOf sv', b ∈ blockOf sv ∨ w.heap.size ≤ b) := by
  have m1 := meth_Len
  have m2 := meth_Push
  have Hlen := Lib.hid hlen
  have Hnew := Lib.hid hnew
  clear hlen hnew
  go_enter Try.func43, Try.ntmps43
  go_wp2_with fail
  refine (row_push h t Hnew.out (by have := Hlen.out; omega)).mono ?_
  rintro e w1 ⟨rfl, sv1, hR1, ho1, hb1⟩
  go_wp2_with fail
  have hll : (L ++ [t]).length = L.length + 1 := by simp
  refine (row_len' hR1).mono ?_
  rintro e w2 ⟨rfl, hw2⟩
  subst hw2
  have hL6 : (L.length : Int) ≤ 10000 := by have := Hlen.out; omega
  go_wp2_with fail
  have hup : UpI (atL (L ++ [t])) (L.length + 1) L.length := up_start (heapN_congr hH (fun k hk => atL_append hk))
  refine (heap_up hR1 hup (by omega) (by omega) (by have := Hlen.out; omega) _ rfl).mono ?_
  rintro e w2 ⟨rfl, L', hR2, hH2, hP2, _, ho2⟩
  go_wp2_with fail
  go_end0
  refine ⟨rfl, sv1, L', hR2, ?_, hP2.trans (List.perm_append_comm (l₁ := L) (l₂ := [t])), ho1.trans' ho2 ?_, hb1⟩
  · rw [hP2.length_eq, hll]; exact hH2
  · intro x hx hlt
    rcases List.mem_cons.1 hx with rfl | hx
    · simp
    · rcases hb1 x hx with h1 | h1
      · simp [h1]
      · omega

theorem snoc_of_get {L : List Tm} {n : Nat} {a : Tm} (hl : L.length = n + 1) (ha : L[n]? = some a) : L = L.take n ++ [a] := by
  have h1 : L.take (n + 1) = L := List.take_of_length_le (by omega)
  rw [List.take_add_one, ha] at h1
  exact h1.symm

set_option maxRecDepth 100000 in
set_option maxHeartbeats 2000000 in
theorem heap_remove {w : World} {hp bm : Nat} {most : Int} {sv : Value} {L : List Tm} (h : RowAt w hp bm most sv L) (hH : HeapN (atL L) L.length) {i : Nat} {a : Tm} (ha : L[i]? = some a) (hlen : L.length ≤ 10000) (I : Int) (hI : I = i) :
    Calls Try.prog 62 #[.iface 101 (.pointer (some ⟨hp, 0, none⟩)), .int .i64 I] w fun e w' =>
      e = .returned (.iface 30 (.agg #[.int .i64 a.1, .int .i64 a.2])) ∧ ∃ sv' L', RowAt w' hp bm most sv' L' ∧ HeapN (atL L') L'.length ∧ (a :: L').Perm L ∧ Only (hp :: bm :: blockOf sv) w w' ∧ blockOf sv' = blockOf sv := by
  subst hI
  obtain ⟨n, hn⟩ : ∃ n, L.length = n + 1 := ⟨L.length - 1, by have := (List.getElem?_eq_some_iff.1 ha).1; omega⟩
  have hin : i < n + 1 := by have := (List.getElem?_eq_some_iff.1 ha).1; omega
  have hi6 : (i : Int) ≤ 10000 := by omega
  have hn6 : (n : Int) ≤ 10000 := by omega
  have m1 := meth_Len
  have m2 := meth_Pop
  have m3 := meth_Swap
  have cL := row_len' h
  rw [hn] at cL
  have HcL := Lib.hid cL
  have Hha := Lib.hid ha
  have Hn := Lib.hid hn
  clear cL ha hn
  by_cases hni : i = n
  · have HNI := Lib.hid hni
    subst hni
    have hnn : ((i : Int) != (i : Int)) = false := by simp
    have cP : ∃ L', L = L' ++ [a] ∧ L'.length = i := ⟨L.take i, snoc_of_get Hn.out Hha.out, by rw [List.length_take]; have := Hn.out; omega⟩
    obtain ⟨L', hL, hL'⟩ := cP
    have HL := Lib.hid hL
    have HL' := Lib.hid hL'
    clear hL hL'
    go_enter Try.func62, Try.ntmps62
    go_wp2_with fail
    refine HcL.out.mono ?_
    rintro e w2 ⟨rfl, hw2⟩
    subst hw2
    go_wp2_with fail
    have h' := h
    rw [HL.out] at h'
    refine (row_pop h' (by have := HL'.out; omega)).mono ?_
    rintro e w1 ⟨rfl, sv1, hR1, ho1, hb1⟩
    go_wp2_with fail
    go_ret
    refine ⟨rfl, sv1, L', hR1, ?_, ?_, ho1, hb1⟩
    · have h2 := hH
      rw [HL.out] at h2
      rw [List.length_append] at h2
      intro k h0 hk
      have h3 := h2 k h0 (by omega)
      rw [atL_append hk, atL_append (by omega)] at h3
      exact h3
    · rw [HL.out]; exact List.perm_append_comm (l₁ := [a]) (l₂ := L')
  · have hlt : i < n := by omega
    have hnn : ((n : Int) != (i : Int)) = true := by rw [bne_iff_ne]; omega
    have hz := get_atL (L := L) (i := n) (by have := Hn.out; omega)
    have Hz := Lib.hid hz
    clear hz
    go_enter Try.func62, Try.ntmps62
    go_wp2_with fail
    refine HcL.out.mono ?_
    rintro e w2 ⟨rfl, hw2⟩
    subst hw2
    go_wp2_with fail
    refine (row_swap h Hha.out Hz.out (by omega) _ _ rfl rfl).mono ?_
    rintro e w1 ⟨rfl, hR1, ho1⟩
    go_wp2_with fail
    have hsl : (swapL L i n a (atL L n)).length = n + 1 := by rw [swapL_len]; exact Hn.out
    have hsat := swapL_at Hha.out Hz.out (by omega)
    have hds : DownI (atL (swapL L i n a (atL L n))) n i i := by rw [hsat]; exact down_start (by have h2 := hH; rw [Hn.out] at h2; exact h2) hlt
    have hla : atL (swapL L i n a (atL L n)) n = a := by rw [hsat, swapF, if_pos rfl]; exact atL_get Hha.out
    have hpm := swapL_perm Hha.out Hz.out (show i ≠ n by omega)
    generalize hS : swapL L i n a (atL L n) = L1 at *
    have Hsl := Lib.hid hsl
    have Hla := Lib.hid hla
    clear hS hsl hsat hla
    have fin : ∀ (L2 : List Tm), HeapN (atL L2) n → L2.Perm L1 → (∀ k, n ≤ k → atL L2 k = atL L1 k) → ∃ L3, L2 = L3 ++ [a] ∧ L3.length = n ∧ HeapN (atL L3) L3.length ∧ (a :: L3).Perm L := by
      intro L2 g1 g2 g3
      have hl2 : L2.length = n + 1 := by rw [g2.length_eq]; exact Hsl.out
      have hg : L2[n]? = some a := by rw [get_atL (by omega), g3 n (Nat.le_refl _), Hla.out]
      have hsn := snoc_of_get hl2 hg
      have hl3 : (L2.take n).length = n := by rw [List.length_take]; omega
      refine ⟨L2.take n, hsn, hl3, ?_, ?_⟩
      · rw [hl3]
        intro k h0 hk
        have h3 := g1 k h0 hk
        rw [hsn, atL_append (by omega), atL_append (by omega)] at h3
        exact h3
      · have h4 : (a :: L2.take n).Perm (L2.take n ++ [a]) := List.perm_append_comm (l₁ := [a])
        rw [← hsn] at h4
        exact (h4.trans g2).trans hpm
    have Hfin := Lib.hid fin
    clear fin
    refine (heap_down hR1 hds hlt (by have := Hsl.out; omega) (by have := Hsl.out; omega) _ _ rfl rfl).mono ?_
    rintro e w3 ⟨moved, rfl, L2, hR2, hm1, hm2, hP2, hk2, ho2⟩
    have HP2 := Lib.hid hP2
    have Hk2 := Lib.hid hk2
    have Hpm := Lib.hid hpm
    clear hP2 hk2 hpm
    cases moved with
    | true =>
      have Hm1 := Lib.hid (hm1 rfl)
      clear hm1 hm2
      go_wp2_with fail
      obtain ⟨L3, hL3, hl3, hH3, hP3⟩ := Hfin.out L2 Hm1.out HP2.out Hk2.out
      rw [hL3] at hR2
      have Hl3 := Lib.hid hl3
      clear hL3 hl3
      refine (row_pop hR2 (by have := Hl3.out; omega)).mono ?_
      rintro e w4 ⟨rfl, sv1, hR4, ho4, hb4⟩
      go_wp2_with fail
      go_ret
      exact ⟨rfl, sv1, L3, hR4, hH3, hP3, (((ho1.trans ho2).mono (by intro x hx _; exact List.mem_cons_of_mem _ hx)).trans ho4), hb4⟩
    | false =>
      have Hm2 := Lib.hid (hm2 rfl)
      clear hm1 hm2
      go_wp2_with fail
      have hll : L2.length = n + 1 := by rw [HP2.out.length_eq]; exact Hsl.out
      refine (heap_up hR2 Hm2.out hlt (by omega) (by omega) _ rfl).mono ?_
      clear hll
      rintro e w4 ⟨rfl, L4, hR4, hH4, hP4, hk4, ho4⟩
      go_wp2_with fail
      obtain ⟨L3, hL3, hl3, hH3, hP3⟩ := Hfin.out L4 hH4 (hP4.trans HP2.out) (fun k hk => (hk4 k hk).trans (Hk2.out k hk))
      rw [hL3] at hR4
      have Hl3 := Lib.hid hl3
      clear hL3 hl3
      refine (row_pop hR4 (by have := Hl3.out; omega)).mono ?_
      rintro e w5 ⟨rfl, sv1, hR5, ho5, hb5⟩
      go_wp2_with fail
      go_ret
      exact ⟨rfl, sv1, L3, hR5, hH3, hP3, ((((ho1.trans ho2).trans ho4).mono (by intro x hx _; exact List.mem_cons_of_mem _ hx)).trans ho5), hb5⟩

end Go.Proofs.Ytcppnmogdmpdbaa
