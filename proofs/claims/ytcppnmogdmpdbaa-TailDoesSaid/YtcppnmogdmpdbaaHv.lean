/- container/heap's up, down, Push and Remove over telemeter/heap's row, walked. -/
import Derived.Test.YtcppnmogdmpdbaaHu
set_option linter.unusedVariables false
set_option linter.unusedSimpArgs false
namespace Go.Proofs.Ytcppnmogdmpdbaa
open Go.RowKit Go.Mk Go.Hp

theorem row_swap {w : World} {hp bm : Nat} {most : Int} {sv : Value} {L : List Tm} (h : RowAt w hp bm most sv L) {i j : Nat} {a b : Tm} (ha : L[i]? = some a) (hb : L[j]? = some b) (hij : i ≠ j) (I J : Int) (hI : I = i) (hJ : J = j) :
    Calls Try.prog 85 #[.pointer (some ⟨hp, 0, none⟩), .int .i64 I, .int .i64 J] w fun e w' =>
      e = .returned (.tuple #[]) ∧ RowAt w' hp bm most sv (swapL L i j a b) ∧ Only (bm :: blockOf sv) w w' := by
  subst hI hJ
  obtain ⟨ms, clock, hm, hpos⟩ := h.mp
  have hbh : bm ≠ hp := no_map_cells h.c0 hm.blk
  have hbs : bm ∉ blockOf sv := no_map_row h.sl hm.blk
  have hhl := lt_of_cell h.c0
  have hil := (List.getElem?_eq_some_iff.1 ha).1
  have hjl := (List.getElem?_eq_some_iff.1 hb).1
  obtain ⟨q, ma, hq, hka, hva⟩ := mem_of_getL (hpos.there i a ha)
  obtain ⟨p, mb, hp', hkb, hvb⟩ := mem_of_getL (hpos.there j b hb)
  have hab : a.2 ≠ b.2 := fun he => hij (hpos.inj ha hb he)
  have hpq : p ≠ q := by
    rintro rfl
    rw [hq] at hp'
    cases hp'
    exact hab (hka.symm.trans hkb)
  have hsl := h.sl
  generalize hX : L.map encT = X at hsl
  cases hsl with
  | nil => simp only [List.map_eq_nil_iff] at hX; subst hX; simp at hil
  | @row _ g off cap hr =>
    subst hX
    have hgh : g ≠ hp := by have := h.ap; simp only [blockOf, List.mem_singleton] at this; exact fun he => this he.symm
    have hgm : bm ≠ g := by simpa [blockOf] using hbs
    have hia : (L.map encT)[i]? = some (encT a) := by rw [List.getElem?_map, ha]; rfl
    have hjb : (L.map encT)[j]? = some (encT b) := by rw [List.getElem?_map, hb]; rfl
    have hsr := swapW_row hr hil hjl a b
    obtain ⟨gi, gj, _⟩ := swapL_get ha hb hij
    have gi' : ((swapL L i j a b).map encT)[i]? = some (encT b) := by rw [List.getElem?_map, gi]; rfl
    have gj' : ((swapL L i j a b).map encT)[j]? = some (encT a) := by rw [List.getElem?_map, gj]; rfl
    have c0 := h.c0
    rw [List.length_map] at c0
    refine (row_swap_cells hp g off bm i j L.length cap a b ms clock p q ma mb w c0 h.c1 hhl hr.lt hgh hgm (by omega) (by omega) hij hr.frozen (hr.cell (f := 0) hia rfl) (hr.cell (f := 1) hia rfl) (hr.cell (f := 0) hjb rfl) (hr.cell (f := 1) hjb rfl)
      (hsr.cell (f := 1) gi' rfl) (hsr.cell (f := 1) gj' rfl) hm hp' hq hkb hka hpq).mono ?_
    rintro e w' ⟨rfl, rfl⟩
    have o1 := (swapW_only w g off i j a b).drew.drew
    have hm1 := hm.only o1 (by simpa using hgm)
    have hq2 : (setV ms p (.int .i64 i))[q]? = some ma := by unfold setV; rw [List.getElem?_modify]; simp [hpq, hq]
    have hm2 := hm1.setV p (.int .i64 i)
    have hm3 := hm2.setV q (.int .i64 j)
    have o2 : Only [bm] (swapW w g off i j a b).drew.drew (ChangeMaps.setBlock (ChangeMaps.setBlock (swapW w g off i j a b).drew.drew bm (.map ((setV ms p (.int .i64 i)).map (Ent.mk' (Value.int .i64))).toArray clock)) bm
        (.map ((setV (setV ms p (.int .i64 i)) q (.int .i64 j)).map (Ent.mk' (Value.int .i64))).toArray clock)) := ((Only.refl _ _).setBlock (.inl (by simp)) _).setBlock (.inl (by simp)) _
    have hph : hp ∉ [g] := by simpa using Ne.symm hgh
    have hpb : hp ∉ [bm] := by simpa using Ne.symm hbh
    have hrow := (hsr.only ((Only.refl [] _).drew.drew) (by simp)).only o2 (by simpa using Ne.symm hgm)
    refine ⟨rfl, ⟨o2.cell (o1.cell h.c0 hph) hpb, o2.cell (o1.cell h.c1 hph) hpb, o2.cell (o1.cell h.c2 hph) hpb, fun i => ?_, ?_, h.ap, _, clock, hm3, ?_⟩, ?_⟩
    · rw [World.frozen?_of_block (a := ⟨hp, i, none⟩) (o2.block hp (o1.lt hhl) hpb), World.frozen?_of_block (a := ⟨hp, i, none⟩) (o1.block hp hhl hph)]; exact h.fz i
    · have hR := SliceIs.row hrow
      have hlen : ((swapL L i j a b).map encT).length = (L.map encT).length := by simp [swapL_len]
      rw [hlen] at hR
      exact hR
    · refine hpos.swap ha hb hij fun k => ?_
      rw [setV_getL _ k _ _ ma (by rw [setV_keys]; exact hm.keys) hq2, setV_getL _ k _ _ mb hm.keys hp', hka, hkb]
    · exact (o1.mono (S' := bm :: blockOf (.slice (some ⟨g, off, none⟩) (L.map encT).length cap)) (by simp [blockOf])).trans' o2 (by simp)

theorem meth_Less (a : Addr) (w : World) : (method 264 101 (.pointer (some a)) "Less").run Try.prog w = .ok (82, .pointer (some a)) w := by kernel_rfl
theorem meth_Swap (a : Addr) (w : World) : (method 264 101 (.pointer (some a)) "Swap").run Try.prog w = .ok (85, .pointer (some a)) w := by kernel_rfl
theorem meth_Len (a : Addr) (w : World) : (method 264 101 (.pointer (some a)) "Len").run Try.prog w = .ok (45, .pointer (some a)) w := by kernel_rfl
theorem meth_Push (a : Addr) (w : World) : (method 264 101 (.pointer (some a)) "Push").run Try.prog w = .ok (84, .pointer (some a)) w := by kernel_rfl
theorem meth_Pop (a : Addr) (w : World) : (method 264 101 (.pointer (some a)) "Pop").run Try.prog w = .ok (83, .pointer (some a)) w := by kernel_rfl

set_option maxRecDepth 100000 in
set_option maxHeartbeats 1000000 in
theorem heap_up {w : World} {hp bm : Nat} {most : Int} {sv : Value} {L : List Tm} (h : RowAt w hp bm most sv L) {n j0 : Nat} (hU : UpI (atL L) n j0) (hj0 : j0 < n) (hn : n ≤ L.length) (hlen : L.length ≤ 1000000) (J : Int) (hJ : J = j0) :
    Calls Try.prog 61 #[.iface 101 (.pointer (some ⟨hp, 0, none⟩)), .int .i64 J] w fun e w' =>
      e = .returned (.tuple #[]) ∧ ∃ L', RowAt w' hp bm most sv L' ∧ HeapN (atL L') n ∧ L'.Perm L ∧ (∀ k, n ≤ k → atL L' k = atL L k) ∧ Only (bm :: blockOf sv) w w' := by
  subst hJ
  have m1 := meth_Less
  have m2 := meth_Swap
  go_enter Try.func61, Try.ntmps61
  go_wp2
  go_loopw [1, 4] (fun jv _ wr => ∃ (j : Nat) (L' : List Tm), jv = .int .i64 j ∧ j < n ∧ RowAt wr hp bm most sv L' ∧ UpI (atL L') n j ∧ L'.Perm L ∧ (∀ k, n ≤ k → atL L' k = atL L k) ∧ Only (bm :: blockOf sv) w wr) (fun jv _ _ => (intOf jv).toNat)
  case atStart => exact ⟨j0, L, rfl, hj0, h, hU, List.Perm.refl _, fun _ _ => rfl, Only.refl _ _⟩
  case round =>
    obtain ⟨j, L', rfl, hjn, hR, hUp, hPerm, hRest, hOnly⟩ := hrel
    have hll : L'.length = L.length := hPerm.length_eq
    have hj6 : (j : Int) ≤ 1000000 := by omega
    by_cases hz : j = 0
    · subst hz
      go_wp2_with fail
      go_end0
      exact ⟨rfl, L', hR, up_stop hUp (.inl rfl), hPerm, hRest, hOnly⟩
    · have ha := get_atL (L := L') (i := j) (by omega)
      have hb := get_atL (L := L') (i := (j - 1) / 2) (by omega)
      have cL := fun (I J : Int) hI hJ => row_less hR ha hb I J hI hJ
      have hne : (((j : Int) - 1) / 2 == (j : Int)) = false := by rw [beq_eq_false_iff_ne]; omega
      have hj1 : (1 : Int) ≤ j := by omega
      cases hlt : ltT (atL L' j) (atL L' ((j - 1) / 2)) with
      | false =>
        rw [hlt] at cL
        have hfin := up_stop hUp (.inr (not_lt.1 hlt))
        have HF := Lib.hid hfin
        clear hlt hfin
        have HcL := Lib.hid cL
        have Hha := Lib.hid ha
        have Hhb := Lib.hid hb
        clear cL ha hb
        go_wp2_with (go_at_call 82; refine (HcL.out _ _ rfl (by omega)).mono ?_; rintro e w1 ⟨rfl, ho1⟩)
        go_end0
        exact ⟨rfl, L', hR.only ho1 (by simp) (by simp) (by simp), HF.out, hPerm, hRest, hOnly.trans' ho1 (by simp)⟩
      | true =>
        rw [hlt] at cL
        have HcL := Lib.hid cL
        have Hha := Lib.hid ha
        have Hhb := Lib.hid hb
        have Hlt := Lib.hid hlt
        clear cL ha hb hlt
        go_wp2_with fail
        refine (HcL.out _ _ rfl (by omega)).mono ?_
        rintro e w1 ⟨rfl, ho1⟩
        go_wp2_with fail
        refine (row_swap (hR.only ho1 (by simp) (by simp) (by simp)) Hhb.out Hha.out (by omega) _ _ (by omega) rfl).mono ?_
        rintro e w2 ⟨rfl, hR2, ho2⟩
        go_wp2_with fail
        have hsw := swapL_at Hhb.out Hha.out (by omega)
        go_roundw
        case rel =>
          refine ⟨(j - 1) / 2, _, by rw [show ((j : Int) - 1) / 2 = (((j - 1) / 2 : Nat) : Int) by omega], by omega, hR2, ?_, ?_, ?_, ?_⟩
          · rw [hsw]; exact up_step hUp (by omega) hjn Hlt.out
          · exact (swapL_perm Hhb.out Hha.out (by omega)).trans hPerm
          · intro k hk; rw [hsw, swapF, if_neg (by omega), if_neg (by omega)]; exact hRest k hk
          · exact (hOnly.trans' ho1 (by simp)).trans ho2
        case measure => simp [intOf]; omega


theorem up_at {f : Nat → Tm} {n i i0 : Nat} (h : i = i0 → UpI f n i) (hm : ¬ i0 < i) (hle : i0 ≤ i) : UpI f n i0 := by
  have e : i = i0 := by omega
  have h2 := h e
  rw [e] at h2
  exact h2

set_option maxRecDepth 100000 in
set_option maxHeartbeats 2000000 in
theorem heap_down {w : World} {hp bm : Nat} {most : Int} {sv : Value} {L : List Tm} (h : RowAt w hp bm most sv L) {n i0 : Nat} (hD0 : DownI (atL L) n i0 i0) (hin : i0 < n) (hn : n ≤ L.length) (hlen : L.length ≤ 1000000) (J N : Int) (hJ : J = i0) (hN : N = n) :
    Calls Try.prog 64 #[.iface 101 (.pointer (some ⟨hp, 0, none⟩)), .int .i64 J, .int .i64 N] w fun e w' =>
      ∃ moved : Bool, e = .returned (.bool moved) ∧ ∃ L', RowAt w' hp bm most sv L' ∧ (moved = true → HeapN (atL L') n) ∧ (moved = false → UpI (atL L') n i0) ∧ L'.Perm L ∧ (∀ k, n ≤ k → atL L' k = atL L k) ∧ Only (bm :: blockOf sv) w w' := by
  subst hJ hN
  have m1 := meth_Less
  have m2 := meth_Swap
  go_enter Try.func64, Try.ntmps64
  go_wp2
  go_loopw [7, 8, 9, 10] (fun iv _ _ _ wr => ∃ (i : Nat) (L' : List Tm), iv = .int .i64 i ∧ i0 ≤ i ∧ i < n ∧ RowAt wr hp bm most sv L' ∧ DownI (atL L') n i i0 ∧ L'.Perm L ∧ (∀ k, n ≤ k → atL L' k = atL L k) ∧ Only (bm :: blockOf sv) w wr) (fun iv _ _ _ _ => n - (intOf iv).toNat)
  case atStart => exact ⟨i0, L, rfl, Nat.le_refl _, hin, h, hD0, List.Perm.refl _, fun _ _ => rfl, Only.refl _ _⟩
  case round =>
    obtain ⟨i, L', rfl, hi0, hin', hR, hD, hPerm, hRest, hOnly⟩ := hrel
    have hll : L'.length = L.length := hPerm.length_eq
    have hi6 : (i : Int) ≤ 1000000 := by omega
    have hnn : (0 : Int) ≤ 2 * (i : Int) + 1 := by omega
    have ha := get_atL (L := L') (i := i) (by omega)
    by_cases hA : n ≤ 2 * i + 1
    · have hfin := down_stop hD (fun k hk hkn hp => by omega)
      have HF := Lib.hid hfin
      have hA' : (n : Int) ≤ 2 * i + 1 := by omega
      clear hfin ha
      go_wp2_with fail
      go_ret
      exact ⟨_, rfl, L', hR, fun hm => HF.out.1 (by have := of_decide_eq_true hm; omega), fun hm => up_at HF.out.2 (of_decide_eq_false hm) hi0, hPerm, hRest, hOnly⟩
    have hA' : 2 * (i : Int) + 1 < n := by omega
    have h1 := get_atL (L := L') (i := 2 * i + 1) (by omega)
    by_cases hB : 2 * i + 2 < n
    · have hB' : 2 * (i : Int) + 1 + 1 < n := by omega
      have h2 := get_atL (L := L') (i := 2 * i + 2) (by omega)
      cases hl2 : ltT (atL L' (2 * i + 2)) (atL L' (2 * i + 1)) with
      | true =>
      have cL0 := fun (I J : Int) hI hJ => row_less hR h2 h1 I J hI hJ
      rw [hl2] at cL0
      have hmin : ∀ k, 0 < k → k < n → (k - 1) / 2 = i → le (atL L' (2 * i + 2)) (atL L' k) := by
        intro k hk hkn hp
        rcases (show k = 2 * i + 1 ∨ k = 2 * i + 2 by omega) with rfl | rfl
        · exact le_of_lt hl2
        · exact le_refl _
      have Hmin0 := Lib.hid hmin
      have HcL0 := Lib.hid cL0
      have Hha0 := Lib.hid ha
      clear hl2 cL0 hmin h1 h2 ha
      go_wp2_with fail
      refine (HcL0.out _ _ (by omega) (by omega)).mono ?_
      rintro e w1 ⟨rfl, ho1⟩
      have hR1 := hR.only ho1 (by simp) (by simp) (by simp)
      have hO1 := hOnly.trans' ho1 (by simp)
      have ha := Hha0.out
      have hmin := Hmin0.out
      obtain ⟨c, hc⟩ : ∃ c, c = 2 * i + 2 := ⟨_, rfl⟩
      rw [← hc] at hmin
      clear Hmin0 HcL0 Hha0

      have hb := get_atL (L := L') (i := c) (by omega)
      have Hha := Lib.hid ha
      have Hhb := Lib.hid hb
      have Hc := Lib.hid hc
      have Hmin := Lib.hid hmin
      rcases (Bool.eq_false_or_eq_true (ltT (atL L' c) (atL L' i))).symm with hlt | hlt
      · have cL := fun (I J : Int) hI hJ => row_less hR1 hb ha I J hI hJ
        rw [hlt] at cL
        have hfin := down_stop hD (fun k hk hkn hp => le_trans (not_lt.1 hlt) (hmin k hk hkn hp))
        have HF := Lib.hid hfin
        have HcL := Lib.hid cL
        clear hlt hfin cL ha hb hc hmin
        go_wp2_with fail
        refine (HcL.out _ _ (by have := Hc.out; omega) rfl).mono ?_
        rintro e w3 ⟨rfl, ho3⟩
        go_wp2_with fail
        go_ret
        exact ⟨_, rfl, L', hR1.only ho3 (by simp) (by simp) (by simp), fun hm => HF.out.1 (by have := of_decide_eq_true hm; omega), fun hm => up_at HF.out.2 (of_decide_eq_false hm) hi0, hPerm, hRest, hO1.trans' ho3 (by simp)⟩
      · have cL := fun (I J : Int) hI hJ => row_less hR1 hb ha I J hI hJ
        rw [hlt] at cL
        have HcL := Lib.hid cL
        have Hlt := Lib.hid hlt
        clear hlt cL ha hb hc hmin
        go_wp2_with fail
        refine (HcL.out _ _ (by have := Hc.out; omega) rfl).mono ?_
        rintro e w3 ⟨rfl, ho3⟩
        go_wp2_with fail
        refine (row_swap (hR1.only ho3 (by simp) (by simp) (by simp)) Hha.out Hhb.out (by have := Hc.out; omega) _ _ rfl (by have := Hc.out; omega)).mono ?_
        rintro e w4 ⟨rfl, hR4, ho4⟩
        go_wp2_with fail
        have hic : i ≠ c := by have := Hc.out; omega
        have hsw := swapL_at Hha.out Hhb.out hic
        go_roundw
        case rel =>
          refine ⟨c, _, by (first | rfl | (have := Hc.out; congr 1; omega)), by have := Hc.out; omega, by have := Hc.out; omega, hR4, ?_, ?_, ?_, ?_⟩
          · rw [hsw]; exact down_step hD hi0 (by have := Hc.out; omega) (by have := Hc.out; omega) (by have := Hc.out; omega) Hlt.out Hmin.out
          · exact (swapL_perm Hha.out Hhb.out hic).trans hPerm
          · intro k hk; rw [hsw, swapF, if_neg (by have := Hc.out; omega), if_neg (by omega)]; exact hRest k hk
          · exact (hO1.trans' ho3 (by simp)).trans ho4
        case measure => have := Hc.out; simp [intOf]; omega

      | false =>
      have cL0 := fun (I J : Int) hI hJ => row_less hR h2 h1 I J hI hJ
      rw [hl2] at cL0
      have hmin : ∀ k, 0 < k → k < n → (k - 1) / 2 = i → le (atL L' (2 * i + 1)) (atL L' k) := by
        intro k hk hkn hp
        rcases (show k = 2 * i + 1 ∨ k = 2 * i + 2 by omega) with rfl | rfl
        · exact le_refl _
        · exact not_lt.1 hl2
      have Hmin0 := Lib.hid hmin
      have HcL0 := Lib.hid cL0
      have Hha0 := Lib.hid ha
      clear hl2 cL0 hmin h1 h2 ha
      go_wp2_with fail
      refine (HcL0.out _ _ (by omega) (by omega)).mono ?_
      rintro e w1 ⟨rfl, ho1⟩
      have hR1 := hR.only ho1 (by simp) (by simp) (by simp)
      have hO1 := hOnly.trans' ho1 (by simp)
      have ha := Hha0.out
      have hmin := Hmin0.out
      obtain ⟨c, hc⟩ : ∃ c, c = 2 * i + 1 := ⟨_, rfl⟩
      rw [← hc] at hmin
      clear Hmin0 HcL0 Hha0

      have hb := get_atL (L := L') (i := c) (by omega)
      have Hha := Lib.hid ha
      have Hhb := Lib.hid hb
      have Hc := Lib.hid hc
      have Hmin := Lib.hid hmin
      rcases (Bool.eq_false_or_eq_true (ltT (atL L' c) (atL L' i))).symm with hlt | hlt
      · have cL := fun (I J : Int) hI hJ => row_less hR1 hb ha I J hI hJ
        rw [hlt] at cL
        have hfin := down_stop hD (fun k hk hkn hp => le_trans (not_lt.1 hlt) (hmin k hk hkn hp))
        have HF := Lib.hid hfin
        have HcL := Lib.hid cL
        clear hlt hfin cL ha hb hc hmin
        go_wp2_with fail
        refine (HcL.out _ _ (by have := Hc.out; omega) rfl).mono ?_
        rintro e w3 ⟨rfl, ho3⟩
        go_wp2_with fail
        go_ret
        exact ⟨_, rfl, L', hR1.only ho3 (by simp) (by simp) (by simp), fun hm => HF.out.1 (by have := of_decide_eq_true hm; omega), fun hm => up_at HF.out.2 (of_decide_eq_false hm) hi0, hPerm, hRest, hO1.trans' ho3 (by simp)⟩
      · have cL := fun (I J : Int) hI hJ => row_less hR1 hb ha I J hI hJ
        rw [hlt] at cL
        have HcL := Lib.hid cL
        have Hlt := Lib.hid hlt
        clear hlt cL ha hb hc hmin
        go_wp2_with fail
        refine (HcL.out _ _ (by have := Hc.out; omega) rfl).mono ?_
        rintro e w3 ⟨rfl, ho3⟩
        go_wp2_with fail
        refine (row_swap (hR1.only ho3 (by simp) (by simp) (by simp)) Hha.out Hhb.out (by have := Hc.out; omega) _ _ rfl (by have := Hc.out; omega)).mono ?_
        rintro e w4 ⟨rfl, hR4, ho4⟩
        go_wp2_with fail
        have hic : i ≠ c := by have := Hc.out; omega
        have hsw := swapL_at Hha.out Hhb.out hic
        go_roundw
        case rel =>
          refine ⟨c, _, by (first | rfl | (have := Hc.out; congr 1; omega)), by have := Hc.out; omega, by have := Hc.out; omega, hR4, ?_, ?_, ?_, ?_⟩
          · rw [hsw]; exact down_step hD hi0 (by have := Hc.out; omega) (by have := Hc.out; omega) (by have := Hc.out; omega) Hlt.out Hmin.out
          · exact (swapL_perm Hha.out Hhb.out hic).trans hPerm
          · intro k hk; rw [hsw, swapF, if_neg (by have := Hc.out; omega), if_neg (by omega)]; exact hRest k hk
          · exact (hO1.trans' ho3 (by simp)).trans ho4
        case measure => have := Hc.out; simp [intOf]; omega

    · have hB' : (n : Int) ≤ 2 * (i : Int) + 1 + 1 := by omega
      have hmin : ∀ k, 0 < k → k < n → (k - 1) / 2 = i → le (atL L' (2 * i + 1)) (atL L' k) := by
        intro k hk hkn hp
        rw [show k = 2 * i + 1 by omega]
        exact le_refl _
      have hR1 := hR
      have hO1 := hOnly
      obtain ⟨c, hc⟩ : ∃ c, c = 2 * i + 1 := ⟨_, rfl⟩
      rw [← hc] at hmin
      clear h1

      have hb := get_atL (L := L') (i := c) (by omega)
      have Hha := Lib.hid ha
      have Hhb := Lib.hid hb
      have Hc := Lib.hid hc
      have Hmin := Lib.hid hmin
      rcases (Bool.eq_false_or_eq_true (ltT (atL L' c) (atL L' i))).symm with hlt | hlt
      · have cL := fun (I J : Int) hI hJ => row_less hR1 hb ha I J hI hJ
        rw [hlt] at cL
        have hfin := down_stop hD (fun k hk hkn hp => le_trans (not_lt.1 hlt) (hmin k hk hkn hp))
        have HF := Lib.hid hfin
        have HcL := Lib.hid cL
        clear hlt hfin cL ha hb hc hmin
        go_wp2_with fail
        refine (HcL.out _ _ (by have := Hc.out; omega) rfl).mono ?_
        rintro e w3 ⟨rfl, ho3⟩
        go_wp2_with fail
        go_ret
        exact ⟨_, rfl, L', hR1.only ho3 (by simp) (by simp) (by simp), fun hm => HF.out.1 (by have := of_decide_eq_true hm; omega), fun hm => up_at HF.out.2 (of_decide_eq_false hm) hi0, hPerm, hRest, hO1.trans' ho3 (by simp)⟩
      · have cL := fun (I J : Int) hI hJ => row_less hR1 hb ha I J hI hJ
        rw [hlt] at cL
        have HcL := Lib.hid cL
        have Hlt := Lib.hid hlt
        clear hlt cL ha hb hc hmin
        go_wp2_with fail
        refine (HcL.out _ _ (by have := Hc.out; omega) rfl).mono ?_
        rintro e w3 ⟨rfl, ho3⟩
        go_wp2_with fail
        refine (row_swap (hR1.only ho3 (by simp) (by simp) (by simp)) Hha.out Hhb.out (by have := Hc.out; omega) _ _ rfl (by have := Hc.out; omega)).mono ?_
        rintro e w4 ⟨rfl, hR4, ho4⟩
        go_wp2_with fail
        have hic : i ≠ c := by have := Hc.out; omega
        have hsw := swapL_at Hha.out Hhb.out hic
        go_roundw
        case rel =>
          refine ⟨c, _, by (first | rfl | (have := Hc.out; congr 1; omega)), by have := Hc.out; omega, by have := Hc.out; omega, hR4, ?_, ?_, ?_, ?_⟩
          · rw [hsw]; exact down_step hD hi0 (by have := Hc.out; omega) (by have := Hc.out; omega) (by have := Hc.out; omega) Hlt.out Hmin.out
          · exact (swapL_perm Hha.out Hhb.out hic).trans hPerm
          · intro k hk; rw [hsw, swapF, if_neg (by have := Hc.out; omega), if_neg (by omega)]; exact hRest k hk
          · exact (hO1.trans' ho3 (by simp)).trans ho4
        case measure => have := Hc.out; simp [intOf]; omega

end Go.Proofs.Ytcppnmogdmpdbaa
