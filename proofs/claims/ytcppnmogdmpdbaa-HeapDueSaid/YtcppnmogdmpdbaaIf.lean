/- HeapFull: the law, walked. -/
import Derived.Test.YtcppnmogdmpdbaaIe
namespace Go.Proofs.Ytcppnmogdmpdbaa
open Go.RowKit Go.Mk Go.Hp
attribute [-go_sem] Builtin.append_

theorem drop_length {S : List Tm} {no : Int} (hn : (S.map (·.2)).Nodup) (h : hasT no S = true) : (dropT no S).length + 1 = S.length := by
  obtain ⟨a, ha, rfl⟩ := hasT_iff.1 h
  have h1 : (a :: S.erase a).Perm S := (List.perm_cons_erase ha).symm
  have h2 := perm_drop hn h1
  rw [← h2.length_eq, ← h1.length_eq]
  rfl
theorem ins_first {S : List Tm} {t : Tm} (h : ∀ a ∈ S, t.1 < a.1) : insT t S = t :: S := by
  cases S with
  | nil => rfl
  | cons a S =>
    unfold insT
    have ha := h a (by simp)
    rw [if_neg]
    rw [lt_iff]
    intro hn
    exact hn (by unfold le; omega)

set_option maxRecDepth 100000 in
set_option maxHeartbeats 4000000 in
theorem full_walk (n : Int) (a : Option Addr) (len cap : Nat) (zs : List Int) (w : World) (hn : (Lit.int .u8 n).wf = true) (h : InRow .u8 w a len cap zs) :
    Calls Try.prog 5 #[.int .u8 n, .slice a len cap] w fun e w' => e = .returned (.bool true) ∧ Only [] w w' := by
  obtain ⟨hl, hc⟩ := h.cells
  have HC := Lib.hid hc
  obtain ⟨hn0, hn1⟩ := bounds_u8 hn
  obtain ⟨r, hr⟩ : ∃ r : Nat, n % 30 = r := ⟨(n % 30).toNat, by omega⟩
  have hr30 : (r : Int) < 30 := by omega
  have hr0 : (0 : Int) ≤ r := by omega
  have hlm : (len : Int) ≤ 9223372036854775807 := by simp only [maxLen] at hl; omega
  have htm : n.tmod 30 = n % 30 := Int.tmod_eq_emod_of_nonneg hn0
  clear hc h hl hn
  go_enter Try.func5, Try.ntmps5
  go_wp2_with fail
  refine (heap_new (1 + (r : Int)) (by omega) (by omega)).mono ?_
  rintro e w2 ⟨hp, F, rfl, h2, hF, o2⟩
  have H2 := Lib.hid h2
  have HF := Lib.hid hF
  have O2 := Lib.hid o2
  clear h2 hF o2
  go_wp2_with fail
  go_loopw [7, 8] (fun iv _ wr => ∃ (i : Nat) (F : List Nat) (S : List Tm), iv = .int .i64 i ∧ i ≤ r + 1 ∧ HeapObj wr hp F (1 + (r : Int)) S ∧ S.length = i ∧ (∀ t ∈ S, 0 ≤ t.1 ∧ ∃ j : Nat, j < i ∧ t.2 = j) ∧ (∀ j : Nat, j < i → hasT (j : Int) S = true) ∧
    Only [] w wr ∧ (∀ b ∈ F, w.heap.size ≤ b)) (fun iv _ _ => r + 1 - (intOf iv).toNat)
  case atStart => exact ⟨0, F, [], rfl, by omega, H2.out, rfl, by simp, by intro j hj; omega, O2.out, HF.out⟩
  case round =>
    clear H2 HF O2 F
    obtain ⟨i, F, S, rfl, hi, hobj, hS, hno, hall, ho, hF⟩ := hrel
    by_cases hlt : i < r + 1
    · have push : ∀ x : Int, 0 ≤ x → Hid (Calls Try.prog 17 #[.pointer (some ⟨hp, 0, none⟩), .agg #[.int .i64 x, .int .i64 (i : Int)]] wr fun e w' => e = .returned (.int .u16 0) ∧
          ∃ (m : Nat) (F : List Nat) (S : List Tm), Value.int .i64 ((i : Int) + 1) = .int .i64 m ∧ m ≤ r + 1 ∧ HeapObj w' hp F (1 + (r : Int)) S ∧ S.length = m ∧ (∀ t ∈ S, 0 ≤ t.1 ∧ ∃ j : Nat, j < m ∧ t.2 = j) ∧ (∀ j : Nat, j < m → hasT (j : Int) S = true) ∧
          Only [] w w' ∧ (∀ b ∈ F, w.heap.size ≤ b)) := by
        intro x hx
        have hpt : pushTold (x, (i : Int)) S (1 + (r : Int)) = 0 := by
          have hn : hasT (i : Int) S = false := by
            cases hq : hasT (i : Int) S with
            | false => rfl
            | true =>
              obtain ⟨t, ht, hti⟩ := hasT_iff.1 hq
              obtain ⟨_, j, hj, hj2⟩ := hno t ht
              omega
          unfold pushTold
          rw [hn, hS, if_neg (by simp), if_neg (by omega)]
        refine (heap_Push hobj (x, (i : Int)) hpt).mono ?_
        rintro e w4 ⟨rfl, F4, h4, o4, hF4⟩
        refine ⟨rfl, i + 1, F4, _, by go_num, by omega, h4, by rw [insT_length, hS], ?_, ?_, ho.trans' o4 (fun y hy hlt => absurd (hF y hy) (by omega)), ?_⟩
        · intro t ht
          rcases List.mem_cons.1 ((insT_perm _ S).mem_iff.1 ht) with rfl | ht
          · exact ⟨hx, i, by omega, rfl⟩
          · obtain ⟨h1, j, h2, h3⟩ := hno t ht
            exact ⟨h1, j, by omega, h3⟩
        · intro j hj
          rw [hasT_ins, Bool.or_eq_true]
          by_cases hji : j = i
          · left; subst hji; simp
          · right; exact hall j (by omega)
        · intro b hb
          rcases hF4 b hb with h1 | h1
          · exact hF b h1
          · exact Nat.le_trans ho.size h1
      have Hpush := Lib.hid push
      have Ho := Lib.hid ho
      have g1 : decide ((i : Int) < 1 + r) = true := by simp; omega
      have hi5 : (i : Int) < 1000 := by omega
      clear push hobj hS hno hall ho hF
      by_cases hil : i < len
      · obtain ⟨b, off, rfl, hbw, hcell⟩ := HC.out (by omega)
        obtain ⟨x, hx⟩ : ∃ x, zs[i]?.getD 0 = x := ⟨_, rfl⟩
        have hci := Ho.out.cell (hcell i hil).1 (by simp)
        have hwf := (hcell i hil).2
        rw [List.getD_eq_getElem?_getD, hx] at hci hwf
        obtain ⟨hx0, hx1⟩ := bounds_u8 hwf
        have g2 : decide (i < len) = true := by simp; omega
        clear hcell hwf hx
        go_wp2_with fail
        refine (Hpush.out x hx0).out.mono ?_
        rintro e w4 ⟨rfl, hfin⟩
        have Hfin := Lib.hid hfin
        clear hfin
        go_wp2_with fail
        exact ⟨Hfin.out, by simp [intOf]; omega⟩
      · have g2 : decide (i < len) = false := by simp; omega
        go_wp2_with fail
        refine (Hpush.out 0 (by omega)).out.mono ?_
        rintro e w4 ⟨rfl, hfin⟩
        have Hfin := Lib.hid hfin
        clear hfin
        go_wp2_with fail
        exact ⟨Hfin.out, by simp [intOf]; omega⟩
    · have hir : i = r + 1 := by omega
      subst hir
      have g1 : decide (((r + 1 : Nat) : Int) < 1 + r) = false := by simp; omega
      have g1' : decide ((r : Int) + 1 < 1 + r) = false := by simp; omega
      have hnot : hasT (1 + (r : Int)) S = false := by
        cases hq : hasT (1 + (r : Int)) S with
        | false => rfl
        | true =>
          obtain ⟨t, ht, hti⟩ := hasT_iff.1 hq
          obtain ⟨_, j, hj, hj2⟩ := hno t ht
          omega
      have hpt : pushTold (-1, 1 + (r : Int)) S (1 + (r : Int)) = 70 := by
        unfold pushTold
        rw [hnot, hS, if_neg (by simp), if_pos (by omega)]
      obtain ⟨k, hk⟩ : ∃ k : Nat, (1 + (r : Int)) / 2 = k := ⟨((1 + (r : Int)) / 2).toNat, by omega⟩
      have hkr : k < r + 1 := by omega
      have hkS : hasT (k : Int) S = true := hall k hkr
      have hlen2 := drop_length hobj.nos hkS
      have hnot2 : hasT (1 + (r : Int)) (dropT (k : Int) S) = false := by rw [hasT_drop, hnot]; simp
      have hpt2 : pushTold (-1, 1 + (r : Int)) (dropT (k : Int) S) (1 + (r : Int)) = 0 := by
        unfold pushTold
        rw [hnot2, if_neg (by simp), if_neg (by omega)]
      have hins : insT (-1, 1 + (r : Int)) (dropT (k : Int) S) = (-1, 1 + (r : Int)) :: dropT (k : Int) S := ins_first (fun t ht => by have := (hno t (List.mem_filter.1 ht).1).1; show (-1 : Int) < t.1; omega)
      have hk3 : hasT (k : Int) ((-1, 1 + (r : Int)) :: dropT (k : Int) S) = false := by
        rw [← hins, hasT_ins, hasT_drop]
        have : ((1 + (r : Int)) == (k : Int)) = false := by rw [beq_eq_false_iff_ne]; omega
        simp [this]
      have A : Aside (_ ∧ _ ∧ _ ∧ _ ∧ _ ∧ _ ∧ _ ∧ _ ∧ _) := ⟨hkS, hlen2, hpt2, hins, hk3, ho, hF, hpt, hS⟩
      have Hobj := Lib.hid hobj
      have C1 := Lib.hid (heap_Push_not hobj (-1, 1 + (r : Int)) (by rw [hpt]; omega))
      clear hkS hlen2 hpt2 hins hk3 ho hF hpt hS hnot hnot2 hobj hno hall
      have htd : (1 + (r : Int)).tdiv 2 = (1 + (r : Int)) / 2 := Int.tdiv_eq_ediv_of_nonneg (by omega)
      go_wp2_with fail
      refine C1.out.mono ?_
      rintro e w4 ⟨he, o4⟩
      rw [A.out.2.2.2.2.2.2.2.1] at he
      subst he
      have C2 := Lib.hid (heap_Drop (Hobj.out.only o4 (by simp)) (k : Int))
      go_wp2_with fail
      refine C2.out.mono ?_
      rintro e w5 ⟨he, h5, o5⟩
      rw [A.out.1] at he
      subst he
      have C3 := Lib.hid (heap_Push h5 (-1, 1 + (r : Int)) A.out.2.2.1)
      clear C1 C2 h5
      go_wp2_with fail
      refine C3.out.mono ?_
      rintro e w6 ⟨rfl, F6, h6, o6, hF6⟩
      rw [A.out.2.2.2.1] at h6
      have H6 := Lib.hid h6
      have C4 := Lib.hid (heap_First h6)
      clear C3 h6
      go_wp2_with fail
      refine C4.out.mono ?_
      rintro e w7 ⟨rfl, o7⟩
      simp only [firstV]
      clear C4
      go_wp2_with fail
      refine (known10 _).mono ?_
      rintro e w8 ⟨rfl, o8⟩
      have k0 := o8.cell (a := ⟨w7.heap.size, 0, none⟩) (v := .int .i64 (-1)) (by simp) (by simp)
      have k1 := o8.cell (a := ⟨w7.heap.size, 1, none⟩) (v := .int .i64 (1 + (r : Int))) (by simp) (by simp)
      have oa : Only [] w6 (w7.alloc (.cells #[.int .i64 (-1), .int .i64 (1 + (r : Int))] 30)) := o7.alloc _
      have h8 := (H6.out.only oa (by simp)).only o8 (by simp)
      have C5 := heap_len h8
      have hl8 : ((-1, 1 + (r : Int)) :: dropT (k : Int) S).length = r + 1 := by have := A.out.2.1; have := A.out.2.2.2.2.2.2.2.2; simp only [List.length_cons]; omega
      rw [hl8] at C5
      have HC5 := Lib.hid C5
      have C6 := heap_Drop h8 (k : Int)
      rw [A.out.2.2.2.2.1] at C6
      have HC6 := Lib.hid C6
      have heq := eql_timer (-1) (1 + (r : Int)) (-1) (1 + (r : Int))
      have hgt := guard_timer
      have hle1 : ((r : Int) + 1 == 1 + (r : Int)) = true := by rw [beq_iff_eq]; omega
      have hend : Hid (Only [] w w8) := by
        have ho := A.out.2.2.2.2.2.1
        have hF := A.out.2.2.2.2.2.2.1
        have q1 : Only [] w w5 := (ho.trans o4).trans' o5 (fun y hy hlt => absurd (hF y hy) (by omega))
        have q2 : Only [] w w6 := q1.trans' o6 (fun y hy hlt => absurd (hF y hy) (by omega))
        exact (q2.trans oa).trans o8
      have hF6' : Hid (∀ b ∈ F6, w.heap.size ≤ b) := fun b hb => by
        have ho := A.out.2.2.2.2.2.1
        have hF := A.out.2.2.2.2.2.2.1
        rcases hF6 b hb with h1 | h1
        · exact hF b h1
        · have := o4.size; have := o5.size; have := ho.size; omega
      clear C5 C6 h8 hl8 oa o8 o7 hF6 o6 o5 o4 H6 Hobj A
      go_wp2_with fail
      refine HC5.out.mono ?_
      rintro e w9 ⟨rfl, hw⟩
      subst hw
      go_wp2_with fail
      refine HC6.out.mono ?_
      rintro e w10 ⟨rfl, h10, o10⟩
      clear h10
      go_wp2_with fail
      go_ret
      exact ⟨rfl, hend.out.trans' o10 (fun y hy hlt => absurd (hF6'.out y hy) (by omega))⟩

end Go.Proofs.Ytcppnmogdmpdbaa
