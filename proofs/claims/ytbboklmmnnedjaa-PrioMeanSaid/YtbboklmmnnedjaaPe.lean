/- Package prio, walked: the methods of a row of offers through its pointer, and container/heap's up and down over it. -/
import Derived.Test.YtbboklmmnnedjaaPd
set_option linter.unusedVariables false
set_option linter.unusedSimpArgs false
namespace Go.Proofs.Ytbboklmmnnedjaa
open Go.RowKit Go.Mk Go.Pr

theorem meth_Push (a : Addr) (w : World) : (method 237 58 (.pointer (some a)) "Push").run Try.prog w = .ok (88, .pointer (some a)) w := by kernel_rfl
theorem meth_Pop (a : Addr) (w : World) : (method 237 58 (.pointer (some a)) "Pop").run Try.prog w = .ok (87, .pointer (some a)) w := by kernel_rfl
theorem load_least {a : Addr} {sv : Value} {w : World} (h : w.cell? a = some sv) : (loadVar 52 a).run Try.prog w = .ok sv w := by
  simp [go_sem, run_underlying Try.underlying52, h]
theorem at_Len (a : Addr) (w : World) : (method 237 58 (.pointer (some a)) "Len").run Try.prog w = ((loadVar 52 a) >>= fun v => pure (83, v)).run Try.prog w := by kernel_rfl
theorem meth_Len {a : Addr} {sv : Value} {w : World} (h : w.cell? a = some sv) : (method 237 58 (.pointer (some a)) "Len").run Try.prog w = .ok (83, sv) w := by
  rw [at_Len, Sem.run_bind, load_least h]; rfl
theorem at_Less (a : Addr) (w : World) : (method 237 58 (.pointer (some a)) "Less").run Try.prog w = ((loadVar 52 a) >>= fun v => pure (84, v)).run Try.prog w := by kernel_rfl
theorem meth_Less {a : Addr} {sv : Value} {w : World} (h : w.cell? a = some sv) : (method 237 58 (.pointer (some a)) "Less").run Try.prog w = .ok (84, sv) w := by
  rw [at_Less, Sem.run_bind, load_least h]; rfl
theorem at_Swap (a : Addr) (w : World) : (method 237 58 (.pointer (some a)) "Swap").run Try.prog w = ((loadVar 52 a) >>= fun v => pure (85, v)).run Try.prog w := by kernel_rfl
theorem meth_Swap {a : Addr} {sv : Value} {w : World} (h : w.cell? a = some sv) : (method 237 58 (.pointer (some a)) "Swap").run Try.prog w = .ok (85, sv) w := by
  rw [at_Swap, Sem.run_bind, load_least h]; rfl

set_option maxRecDepth 100000 in
set_option maxHeartbeats 1000000 in
theorem heap_up {w : World} {hp : Nat} {rest : List Value} {T : TypeId} {sv : Value} {L : List Of} (h : LeastAt w hp rest T sv L) {n j0 : Nat} (hU : UpI (atL L) n j0) (hj0 : j0 < n) (hn : n ≤ L.length) (hlen : L.length ≤ 1000000) (J : Int) (hJ : J = j0) :
    Calls Try.prog 32 #[.iface 58 (.pointer (some ⟨hp, 0, none⟩)), .int .i64 J] w fun e w' =>
      e = .returned (.tuple #[]) ∧ ∃ L', LeastAt w' hp rest T sv L' ∧ HeapN (atL L') n ∧ L'.Perm L ∧ (∀ k, n ≤ k → atL L' k = atL L k) ∧ Only (blockOf sv) w w' := by
  subst hJ
  go_enter Try.func32, Try.ntmps32
  go_wp2
  go_loopw [1, 4] (fun jv _ wr => ∃ (j : Nat) (L' : List Of), jv = .int .i64 j ∧ j < n ∧ LeastAt wr hp rest T sv L' ∧ UpI (atL L') n j ∧ L'.Perm L ∧ (∀ k, n ≤ k → atL L' k = atL L k) ∧ Only (blockOf sv) w wr) (fun jv _ _ => (intOf jv).toNat)
  case atStart => exact ⟨j0, L, rfl, hj0, h, hU, List.Perm.refl _, fun _ _ => rfl, Only.refl _ _⟩
  case round =>
    obtain ⟨j, L', rfl, hjn, hR, hUp, hPerm, hRest, hOnly⟩ := hrel
    have hll : L'.length = L.length := hPerm.length_eq
    have m1 := meth_Less hR.c0
    have hj6 : (j : Int) ≤ 1000000 := by omega
    by_cases hz : j = 0
    · subst hz
      go_wp2_with fail
      go_end0
      exact ⟨rfl, L', hR, up_stop hUp (.inl rfl), hPerm, hRest, hOnly⟩
    · have ha := get_atL (L := L') (i := j) (by omega)
      have hb := get_atL (L := L') (i := (j - 1) / 2) (by omega)
      have cL := fun (I J : Int) hI hJ => least_less hR ha hb I J hI hJ
      have hne : (((j : Int) - 1) / 2 == (j : Int)) = false := by rw [beq_eq_false_iff_ne]; omega
      have hj1 : (1 : Int) ≤ j := by omega
      cases hlt : ltT (atL L' j) (atL L' ((j - 1) / 2)) with
      | false =>
        rw [hlt] at cL
        have hfin := up_stop hUp (.inr (not_lt.1 hlt))
        have HF := Lib.hid hfin
        clear hlt hfin
        have HcL := Lib.hid cL
        have Hha := Lib.hid ha
        have Hhb := Lib.hid hb
        clear cL ha hb
        go_wp2_with (go_at_call 84; refine (HcL.out _ _ rfl (by omega)).mono ?_; rintro e w1 ⟨rfl, ho1⟩)
        go_end0
        exact ⟨rfl, L', hR.only ho1 (by simp) (by simp), HF.out, hPerm, hRest, hOnly.trans' ho1 (by simp)⟩
      | true =>
        rw [hlt] at cL
        have HcL := Lib.hid cL
        have Hha := Lib.hid ha
        have Hhb := Lib.hid hb
        have Hlt := Lib.hid hlt
        clear cL ha hb hlt
        go_wp2_with fail
        refine (HcL.out _ _ rfl (by omega)).mono ?_
        rintro e w1 ⟨rfl, ho1⟩
        have m2 := meth_Swap (hR.only ho1 (by simp) (by simp)).c0
        go_wp2_with fail
        refine (least_swap (hR.only ho1 (by simp) (by simp)) Hhb.out Hha.out (by omega) _ _ (by omega) rfl).mono ?_
        rintro e w2 ⟨rfl, hR2, ho2⟩
        go_wp2_with fail
        have hsw := swapL_at Hhb.out Hha.out (by omega)
        go_roundw
        case rel =>
          refine ⟨(j - 1) / 2, _, by rw [show ((j : Int) - 1) / 2 = (((j - 1) / 2 : Nat) : Int) by omega], by omega, hR2, ?_, ?_, ?_, ?_⟩
          · rw [hsw]; exact up_step hUp (by omega) hjn Hlt.out
          · exact (swapL_perm Hhb.out Hha.out (by omega)).trans hPerm
          · intro k hk; rw [hsw, swapF, if_neg (by omega), if_neg (by omega)]; exact hRest k hk
          · exact (hOnly.trans' ho1 (by simp)).trans ho2
        case measure => simp [intOf]; omega


theorem up_at {f : Nat → Of} {n i i0 : Nat} (h : i = i0 → UpI f n i) (hm : ¬ i0 < i) (hle : i0 ≤ i) : UpI f n i0 := by
  have e : i = i0 := by omega
  have h2 := h e
  rw [e] at h2
  exact h2

set_option maxRecDepth 100000 in
set_option maxHeartbeats 2000000 in
theorem heap_down {w : World} {hp : Nat} {rest : List Value} {T : TypeId} {sv : Value} {L : List Of} (h : LeastAt w hp rest T sv L) {n i0 : Nat} (hD0 : DownI (atL L) n i0 i0) (hin : i0 < n) (hn : n ≤ L.length) (hlen : L.length ≤ 1000000) (J N : Int) (hJ : J = i0) (hN : N = n) :
    Calls Try.prog 33 #[.iface 58 (.pointer (some ⟨hp, 0, none⟩)), .int .i64 J, .int .i64 N] w fun e w' =>
      ∃ moved : Bool, e = .returned (.bool moved) ∧ ∃ L', LeastAt w' hp rest T sv L' ∧ (moved = true → HeapN (atL L') n) ∧ (moved = false → UpI (atL L') n i0) ∧ L'.Perm L ∧ (∀ k, n ≤ k → atL L' k = atL L k) ∧ Only (blockOf sv) w w' := by
  subst hJ hN
  go_enter Try.func33, Try.ntmps33
  go_wp2
  go_loopw [7, 8, 9, 10] (fun iv _ _ _ wr => ∃ (i : Nat) (L' : List Of), iv = .int .i64 i ∧ i0 ≤ i ∧ i < n ∧ LeastAt wr hp rest T sv L' ∧ DownI (atL L') n i i0 ∧ L'.Perm L ∧ (∀ k, n ≤ k → atL L' k = atL L k) ∧ Only (blockOf sv) w wr) (fun iv _ _ _ _ => n - (intOf iv).toNat)
  case atStart => exact ⟨i0, L, rfl, Nat.le_refl _, hin, h, hD0, List.Perm.refl _, fun _ _ => rfl, Only.refl _ _⟩
  case round =>
    obtain ⟨i, L', rfl, hi0, hin', hR, hD, hPerm, hRest, hOnly⟩ := hrel
    have hll : L'.length = L.length := hPerm.length_eq
    have m1 := meth_Less hR.c0
    have hi6 : (i : Int) ≤ 1000000 := by omega
    have hnn : (0 : Int) ≤ 2 * (i : Int) + 1 := by omega
    have ha := get_atL (L := L') (i := i) (by omega)
    by_cases hA : n ≤ 2 * i + 1
    · have hfin := down_stop hD (fun k hk hkn hp => by omega)
      have HF := Lib.hid hfin
      have hA' : (n : Int) ≤ 2 * i + 1 := by omega
      clear hfin ha
      go_wp2_with fail
      go_ret
      exact ⟨_, rfl, L', hR, fun hm => HF.out.1 (by have := of_decide_eq_true hm; omega), fun hm => up_at HF.out.2 (of_decide_eq_false hm) hi0, hPerm, hRest, hOnly⟩
    have hA' : 2 * (i : Int) + 1 < n := by omega
    have h1 := get_atL (L := L') (i := 2 * i + 1) (by omega)
    by_cases hB : 2 * i + 2 < n
    · have hB' : 2 * (i : Int) + 1 + 1 < n := by omega
      have h2 := get_atL (L := L') (i := 2 * i + 2) (by omega)
      cases hl2 : ltT (atL L' (2 * i + 2)) (atL L' (2 * i + 1)) with
      | true =>
      have cL0 := fun (I J : Int) hI hJ => least_less hR h2 h1 I J hI hJ
      rw [hl2] at cL0
      have hmin : ∀ k, 0 < k → k < n → (k - 1) / 2 = i → le (atL L' (2 * i + 2)) (atL L' k) := by
        intro k hk hkn hp
        rcases (show k = 2 * i + 1 ∨ k = 2 * i + 2 by omega) with rfl | rfl
        · exact le_of_lt hl2
        · exact le_refl _
      have Hmin0 := Lib.hid hmin
      have HcL0 := Lib.hid cL0
      have Hha0 := Lib.hid ha
      clear hl2 cL0 hmin h1 h2 ha
      go_wp2_with fail
      refine (HcL0.out _ _ (by omega) (by omega)).mono ?_
      rintro e w1 ⟨rfl, ho1⟩
      have hR1 := hR.only ho1 (by simp) (by simp)
      have m3 := meth_Less hR1.c0
      have hO1 := hOnly.trans' ho1 (by simp)
      have ha := Hha0.out
      have hmin := Hmin0.out
      obtain ⟨c, hc⟩ : ∃ c, c = 2 * i + 2 := ⟨_, rfl⟩
      rw [← hc] at hmin
      clear Hmin0 HcL0 Hha0

      have hb := get_atL (L := L') (i := c) (by omega)
      have Hha := Lib.hid ha
      have Hhb := Lib.hid hb
      have Hc := Lib.hid hc
      have Hmin := Lib.hid hmin
      rcases (Bool.eq_false_or_eq_true (ltT (atL L' c) (atL L' i))).symm with hlt | hlt
      · have cL := fun (I J : Int) hI hJ => least_less hR1 hb ha I J hI hJ
        rw [hlt] at cL
        have hfin := down_stop hD (fun k hk hkn hp => le_trans (not_lt.1 hlt) (hmin k hk hkn hp))
        have HF := Lib.hid hfin
        have HcL := Lib.hid cL
        clear hlt hfin cL ha hb hc hmin
        go_wp2_with fail
        refine (HcL.out _ _ (by have := Hc.out; omega) rfl).mono ?_
        rintro e w3 ⟨rfl, ho3⟩
        go_wp2_with fail
        go_ret
        exact ⟨_, rfl, L', hR1.only ho3 (by simp) (by simp), fun hm => HF.out.1 (by have := of_decide_eq_true hm; omega), fun hm => up_at HF.out.2 (of_decide_eq_false hm) hi0, hPerm, hRest, hO1.trans' ho3 (by simp)⟩
      · have cL := fun (I J : Int) hI hJ => least_less hR1 hb ha I J hI hJ
        rw [hlt] at cL
        have HcL := Lib.hid cL
        have Hlt := Lib.hid hlt
        clear hlt cL ha hb hc hmin
        go_wp2_with fail
        refine (HcL.out _ _ (by have := Hc.out; omega) rfl).mono ?_
        rintro e w3 ⟨rfl, ho3⟩
        have m2 := meth_Swap (hR1.only ho3 (by simp) (by simp)).c0
        go_wp2_with fail
        refine (least_swap (hR1.only ho3 (by simp) (by simp)) Hha.out Hhb.out (by have := Hc.out; omega) _ _ rfl (by have := Hc.out; omega)).mono ?_
        rintro e w4 ⟨rfl, hR4, ho4⟩
        go_wp2_with fail
        have hic : i ≠ c := by have := Hc.out; omega
        have hsw := swapL_at Hha.out Hhb.out hic
        go_roundw
        case rel =>
          refine ⟨c, _, by (first | rfl | (have := Hc.out; congr 1; omega)), by have := Hc.out; omega, by have := Hc.out; omega, hR4, ?_, ?_, ?_, ?_⟩
          · rw [hsw]; exact down_step hD hi0 (by have := Hc.out; omega) (by have := Hc.out; omega) (by have := Hc.out; omega) Hlt.out Hmin.out
          · exact (swapL_perm Hha.out Hhb.out hic).trans hPerm
          · intro k hk; rw [hsw, swapF, if_neg (by have := Hc.out; omega), if_neg (by omega)]; exact hRest k hk
          · exact (hO1.trans' ho3 (by simp)).trans ho4
        case measure => have := Hc.out; simp [intOf]; omega

      | false =>
      have cL0 := fun (I J : Int) hI hJ => least_less hR h2 h1 I J hI hJ
      rw [hl2] at cL0
      have hmin : ∀ k, 0 < k → k < n → (k - 1) / 2 = i → le (atL L' (2 * i + 1)) (atL L' k) := by
        intro k hk hkn hp
        rcases (show k = 2 * i + 1 ∨ k = 2 * i + 2 by omega) with rfl | rfl
        · exact le_refl _
        · exact not_lt.1 hl2
      have Hmin0 := Lib.hid hmin
      have HcL0 := Lib.hid cL0
      have Hha0 := Lib.hid ha
      clear hl2 cL0 hmin h1 h2 ha
      go_wp2_with fail
      refine (HcL0.out _ _ (by omega) (by omega)).mono ?_
      rintro e w1 ⟨rfl, ho1⟩
      have hR1 := hR.only ho1 (by simp) (by simp)
      have m3 := meth_Less hR1.c0
      have hO1 := hOnly.trans' ho1 (by simp)
      have ha := Hha0.out
      have hmin := Hmin0.out
      obtain ⟨c, hc⟩ : ∃ c, c = 2 * i + 1 := ⟨_, rfl⟩
      rw [← hc] at hmin
      clear Hmin0 HcL0 Hha0

      have hb := get_atL (L := L') (i := c) (by omega)
      have Hha := Lib.hid ha
      have Hhb := Lib.hid hb
      have Hc := Lib.hid hc
      have Hmin := Lib.hid hmin
      rcases (Bool.eq_false_or_eq_true (ltT (atL L' c) (atL L' i))).symm with hlt | hlt
      · have cL := fun (I J : Int) hI hJ => least_less hR1 hb ha I J hI hJ
        rw [hlt] at cL
        have hfin := down_stop hD (fun k hk hkn hp => le_trans (not_lt.1 hlt) (hmin k hk hkn hp))
        have HF := Lib.hid hfin
        have HcL := Lib.hid cL
        clear hlt hfin cL ha hb hc hmin
        go_wp2_with fail
        refine (HcL.out _ _ (by have := Hc.out; omega) rfl).mono ?_
        rintro e w3 ⟨rfl, ho3⟩
        go_wp2_with fail
        go_ret
        exact ⟨_, rfl, L', hR1.only ho3 (by simp) (by simp), fun hm => HF.out.1 (by have := of_decide_eq_true hm; omega), fun hm => up_at HF.out.2 (of_decide_eq_false hm) hi0, hPerm, hRest, hO1.trans' ho3 (by simp)⟩
      · have cL := fun (I J : Int) hI hJ => least_less hR1 hb ha I J hI hJ
        rw [hlt] at cL
        have HcL := Lib.hid cL
        have Hlt := Lib.hid hlt
        clear hlt cL ha hb hc hmin
        go_wp2_with fail
        refine (HcL.out _ _ (by have := Hc.out; omega) rfl).mono ?_
        rintro e w3 ⟨rfl, ho3⟩
        have m2 := meth_Swap (hR1.only ho3 (by simp) (by simp)).c0
        go_wp2_with fail
        refine (least_swap (hR1.only ho3 (by simp) (by simp)) Hha.out Hhb.out (by have := Hc.out; omega) _ _ rfl (by have := Hc.out; omega)).mono ?_
        rintro e w4 ⟨rfl, hR4, ho4⟩
        go_wp2_with fail
        have hic : i ≠ c := by have := Hc.out; omega
        have hsw := swapL_at Hha.out Hhb.out hic
        go_roundw
        case rel =>
          refine ⟨c, _, by (first | rfl | (have := Hc.out; congr 1; omega)), by have := Hc.out; omega, by have := Hc.out; omega, hR4, ?_, ?_, ?_, ?_⟩
          · rw [hsw]; exact down_step hD hi0 (by have := Hc.out; omega) (by have := Hc.out; omega) (by have := Hc.out; omega) Hlt.out Hmin.out
          · exact (swapL_perm Hha.out Hhb.out hic).trans hPerm
          · intro k hk; rw [hsw, swapF, if_neg (by have := Hc.out; omega), if_neg (by omega)]; exact hRest k hk
          · exact (hO1.trans' ho3 (by simp)).trans ho4
        case measure => have := Hc.out; simp [intOf]; omega

    · have hB' : (n : Int) ≤ 2 * (i : Int) + 1 + 1 := by omega
      have hmin : ∀ k, 0 < k → k < n → (k - 1) / 2 = i → le (atL L' (2 * i + 1)) (atL L' k) := by
        intro k hk hkn hp
        rw [show k = 2 * i + 1 by omega]
        exact le_refl _
      have hR1 := hR
      have hO1 := hOnly
      obtain ⟨c, hc⟩ : ∃ c, c = 2 * i + 1 := ⟨_, rfl⟩
      rw [← hc] at hmin
      clear h1

      have hb := get_atL (L := L') (i := c) (by omega)
      have Hha := Lib.hid ha
      have Hhb := Lib.hid hb
      have Hc := Lib.hid hc
      have Hmin := Lib.hid hmin
      rcases (Bool.eq_false_or_eq_true (ltT (atL L' c) (atL L' i))).symm with hlt | hlt
      · have cL := fun (I J : Int) hI hJ => least_less hR1 hb ha I J hI hJ
        rw [hlt] at cL
        have hfin := down_stop hD (fun k hk hkn hp => le_trans (not_lt.1 hlt) (hmin k hk hkn hp))
        have HF := Lib.hid hfin
        have HcL := Lib.hid cL
        clear hlt hfin cL ha hb hc hmin
        go_wp2_with fail
        refine (HcL.out _ _ (by have := Hc.out; omega) rfl).mono ?_
        rintro e w3 ⟨rfl, ho3⟩
        go_wp2_with fail
        go_ret
        exact ⟨_, rfl, L', hR1.only ho3 (by simp) (by simp), fun hm => HF.out.1 (by have := of_decide_eq_true hm; omega), fun hm => up_at HF.out.2 (of_decide_eq_false hm) hi0, hPerm, hRest, hO1.trans' ho3 (by simp)⟩
      · have cL := fun (I J : Int) hI hJ => least_less hR1 hb ha I J hI hJ
        rw [hlt] at cL
        have HcL := Lib.hid cL
        have Hlt := Lib.hid hlt
        clear hlt cL ha hb hc hmin
        go_wp2_with fail
        refine (HcL.out _ _ (by have := Hc.out; omega) rfl).mono ?_
        rintro e w3 ⟨rfl, ho3⟩
        have m2 := meth_Swap (hR1.only ho3 (by simp) (by simp)).c0
        go_wp2_with fail
        refine (least_swap (hR1.only ho3 (by simp) (by simp)) Hha.out Hhb.out (by have := Hc.out; omega) _ _ rfl (by have := Hc.out; omega)).mono ?_
        rintro e w4 ⟨rfl, hR4, ho4⟩
        go_wp2_with fail
        have hic : i ≠ c := by have := Hc.out; omega
        have hsw := swapL_at Hha.out Hhb.out hic
        go_roundw
        case rel =>
          refine ⟨c, _, by (first | rfl | (have := Hc.out; congr 1; omega)), by have := Hc.out; omega, by have := Hc.out; omega, hR4, ?_, ?_, ?_, ?_⟩
          · rw [hsw]; exact down_step hD hi0 (by have := Hc.out; omega) (by have := Hc.out; omega) (by have := Hc.out; omega) Hlt.out Hmin.out
          · exact (swapL_perm Hha.out Hhb.out hic).trans hPerm
          · intro k hk; rw [hsw, swapF, if_neg (by have := Hc.out; omega), if_neg (by omega)]; exact hRest k hk
          · exact (hO1.trans' ho3 (by simp)).trans ho4
        case measure => have := Hc.out; simp [intOf]; omega

end Go.Proofs.Ytbboklmmnnedjaa
