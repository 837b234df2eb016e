/- HeapDue: the law, walked. -/
import Derived.Test.YtcppnmogdmpdbaaIf
namespace Go.Proofs.Ytcppnmogdmpdbaa
open Go.RowKit Go.Mk Go.Hp
attribute [-go_sem] Builtin.append_

def cntDue (now : Int) (S : List Tm) : Nat := S.countP (fun t => decide (t.1 ≤ now))
theorem cntDue_ins (now : Int) (t : Tm) (S : List Tm) : cntDue now (insT t S) = cntDue now S + (if t.1 ≤ now then 1 else 0) := by
  unfold cntDue
  rw [(insT_perm t S).countP_eq, List.countP_cons]
  simp
theorem sorted_le {t : Tm} {S : List Tm} (h : SortedT (t :: S)) : ∀ x ∈ S, t.1 ≤ x.1 := fun x hx => by
  have h2 := le_of_lt ((List.pairwise_cons.1 h).1 x hx)
  unfold le at h2
  omega
theorem due_count (now : Int) : ∀ S : List Tm, SortedT S → (takeDue now S).length = cntDue now S ∧ (takeDue now S).length + (restDue now S).length = S.length ∧ ∀ t ∈ restDue now S, now < t.1
  | [], _ => ⟨rfl, rfl, by simp [restDue]⟩
  | t :: S, h => by
    by_cases hd : t.1 ≤ now
    · obtain ⟨h1, h2, h3⟩ := due_count now S h.tail
      have hb : decide (t.1 ≤ now) = true := by simpa using hd
      unfold takeDue restDue cntDue at *
      rw [List.takeWhile_cons, List.dropWhile_cons, if_pos hb, if_pos hb, List.countP_cons_of_pos (p := fun t : Tm => decide (t.1 ≤ now)) hb]
      refine ⟨by simp only [List.length_cons]; omega, by simp only [List.length_cons]; omega, h3⟩
    · have hb : ¬ decide (t.1 ≤ now) = true := by simpa using hd
      have hall : ∀ x ∈ t :: S, now < x.1 := by
        intro x hx
        rcases List.mem_cons.1 hx with rfl | hx
        · omega
        · have := sorted_le h x hx; omega
      unfold takeDue restDue cntDue
      rw [List.takeWhile_cons, List.dropWhile_cons, if_neg hb, if_neg hb]
      refine ⟨?_, by simp, hall⟩
      have h0 : (t :: S).countP (fun t => decide (t.1 ≤ now)) = 0 := by
        rw [List.countP_eq_zero]
        intro x hx
        have := hall x hx
        simp only [decide_eq_true_eq]
        omega
      rw [h0]; rfl

set_option maxRecDepth 100000 in
set_option maxHeartbeats 4000000 in
theorem due_walk (a : Option Addr) (len cap : Nat) (zs : List Int) (now : Int) (w : World) (h : InRow .u8 w a len cap zs) (hn : (Lit.int .u8 now).wf = true) :
    Calls Try.prog 6 #[.slice a len cap, .int .u8 now] w fun e w' => e = .returned (.bool true) ∧ Only [] w w' := by
  obtain ⟨hl, hc⟩ := h.cells
  obtain ⟨hn0, hn1⟩ := bounds_u8 hn
  have HC := Lib.hid hc
  clear hc h hn
  by_cases hbig : 100 < len
  · have g1 : decide ((100 : Int) < len) = true := by simp; omega
    clear hbig hl HC
    go_enter Try.func6, Try.ntmps6
    go_wp2_with fail
    refine (known10 _).mono ?_
    rintro e w1 ⟨rfl, o1⟩
    go_wp2_with fail
    go_ret
    exact ⟨rfl, o1⟩
  · have g1 : decide ((100 : Int) < len) = false := by simp; omega
    have hb : (len : Int) ≤ 100 := by omega
    clear hbig hl
    go_enter Try.func6, Try.ntmps6
    go_wp2_with fail
    refine (known10 _).mono ?_
    rintro e w1 ⟨rfl, o1⟩
    go_wp2_with fail
    refine (heap_new 100 (by omega) (by omega)).mono ?_
    rintro e w2 ⟨hp, F, rfl, h2, hF, o2⟩
    have H2 := Lib.hid h2
    have HF : Hid (∀ b ∈ F, w.heap.size ≤ b) := fun b hb => Nat.le_trans o1.size (hF b hb)
    have O2 := Lib.hid (o1.trans o2)
    clear h2 hF o1 o2
    go_wp2_with fail
    go_loopw [6, 7] (fun mv iv wr => ∃ (i : Nat) (F : List Nat) (S : List Tm), iv = .int .i64 i ∧ mv = .int .i64 (cntDue now S) ∧ i ≤ len ∧ HeapObj wr hp F 100 S ∧ S.length = i ∧ (∀ t ∈ S, ∃ j : Nat, j < i ∧ t.2 = j) ∧
      Only [] w wr ∧ (∀ b ∈ F, w.heap.size ≤ b)) (fun _ iv _ => len - (intOf iv).toNat)
    case atStart => exact ⟨0, F, [], rfl, rfl, by omega, H2.out, rfl, by simp, O2.out, HF.out⟩
    case round =>
      clear H2 HF O2 F
      obtain ⟨i, F, S, rfl, rfl, hi, hobj, hS, hno, ho, hF⟩ := hrel
      have hcS : (cntDue now S : Int) ≤ 1000 := by have : cntDue now S ≤ S.length := List.countP_le_length; omega
      obtain ⟨c, hc⟩ : ∃ c, cntDue now S = c := ⟨_, rfl⟩
      rw [hc] at hcS
      by_cases hlt : i < len
      · obtain ⟨b, off, rfl, hbw, hcell⟩ := HC.out (by omega)
        obtain ⟨x, hx⟩ : ∃ x, zs[i]?.getD 0 = x := ⟨_, rfl⟩
        have hci := ho.cell (hcell i hlt).1 (by simp)
        have hwf := (hcell i hlt).2
        rw [List.getD_eq_getElem?_getD, hx] at hci hwf
        obtain ⟨hx0, hx1⟩ := bounds_u8 hwf
        have hpt : pushTold (x, (i : Int)) S 100 = 0 := by
          have hn : hasT (i : Int) S = false := by
            cases hq : hasT (i : Int) S with
            | false => rfl
            | true =>
              obtain ⟨t, ht, hti⟩ := hasT_iff.1 hq
              obtain ⟨j, hj, hj2⟩ := hno t ht
              omega
          unfold pushTold
          rw [hn, hS, if_neg (by simp), if_neg (by omega)]
        have C1 := Lib.hid (heap_Push hobj (x, (i : Int)) hpt)
        have A : Aside (_ ∧ _ ∧ _ ∧ _ ∧ _ ∧ _) := ⟨hS, hno, ho, hF, hc, hbw⟩
        have g2 : decide (i < len) = true := by simp; omega
        clear hcell hwf hx hobj hS hno hF hpt
        have hci2 := hci
        rw [hc]
        clear hc
        go_wp2_with fail
        refine C1.out.mono ?_
        rintro e w4 ⟨rfl, F4, h4, o4, hF4⟩
        obtain ⟨hS, hno, ho, hF, hc, hbw⟩ := A.out
        have hbF : b ∉ F := fun hm => by have := hF b hm; omega
        have k1 := o4.cell hci hbF
        have fin : ∀ q : Int, q = (c : Int) + (if x ≤ now then 1 else 0) → ∃ (m : Nat) (F : List Nat) (S : List Tm), Value.int .i64 ((i : Int) + 1) = .int .i64 m ∧ Value.int .i64 q = .int .i64 (cntDue now S) ∧ m ≤ len ∧ HeapObj w4 hp F 100 S ∧ S.length = m ∧ (∀ t ∈ S, ∃ j : Nat, j < m ∧ t.2 = j) ∧
            Only [] w w4 ∧ (∀ b ∈ F, w.heap.size ≤ b) := by
          intro q hq
          refine ⟨i + 1, F4, _, by go_num, ?_, by omega, h4, by rw [insT_length, hS], ?_, ho.trans' o4 (fun y hy hlt => absurd (hF y hy) (by omega)), ?_⟩
          · rw [cntDue_ins, hq, hc]
            simp only
            split <;> simp
          · intro t ht
            rcases List.mem_cons.1 ((insT_perm _ S).mem_iff.1 ht) with rfl | ht
            · exact ⟨i, by omega, rfl⟩
            · obtain ⟨j, h2, h3⟩ := hno t ht
              exact ⟨j, by omega, h3⟩
          · intro b hb
            rcases hF4 b hb with h1 | h1
            · exact hF b h1
            · exact Nat.le_trans ho.size h1
        have Hfin := Lib.hid fin
        clear hS hno ho hF hc hbw hbF fin h4 o4 hF4 A C1 hci hci2
        by_cases hxn : x ≤ now
        · have g3 : decide (x ≤ now) = true := by simpa using hxn
          have HX := Lib.hid (Hfin.out ((c : Int) + 1) (by rw [if_pos hxn]))
          go_wp2_with fail
          exact ⟨HX.out, by simp [intOf]; omega⟩
        · have g3 : decide (x ≤ now) = false := by simpa using hxn
          have HX := Lib.hid (Hfin.out (c : Int) (by rw [if_neg hxn]; omega))
          go_wp2_with fail
          exact ⟨HX.out, by simp [intOf]; omega⟩
      · have g2 : decide (i < len) = false := by simp; omega
        have hil : i = len := by omega
        obtain ⟨d1, d2, d3⟩ := due_count now S hobj.sorted
        have C1 := Lib.hid (heap_Due hobj now)
        have D := Lib.hid (⟨d1, d2, d3⟩ : _ ∧ _ ∧ _)
        have A : Aside (_ ∧ _ ∧ _ ∧ _ ∧ _) := ⟨hS, ho, hF, hc, hil⟩
        rw [hc]
        clear hobj hS hno ho hF hc d1 d2 d3
        go_wp2_with fail
        refine C1.out.mono ?_
        rintro e w4 ⟨ov, rfl, hsl, h4, o4, hfr⟩
        obtain ⟨p, cp, hov⟩ := hsl.form
        rw [List.length_map] at hov
        have Hlen : Hid ((takeDue now S).length = c) := by
          show _ = _
          rw [D.out.1]; exact A.out.2.2.2.1
        rw [Hlen.out] at hov
        subst hov
        have H4 := Lib.hid h4
        have O4 : Hid (Only [] w w4) := A.out.2.1.trans' o4 (fun y hy hlt => absurd (A.out.2.2.1 y hy) (by omega))
        have C2 := heap_First h4
        have hR3 := D.out.2.2
        have hR2 : (restDue now S).length = len - c := by have := D.out.2.1; have := Hlen.out; have := A.out.1; have := A.out.2.2.2.2; omega
        have hcl : c ≤ len := by have := D.out.2.1; have := Hlen.out; have := A.out.1; have := A.out.2.2.2.2; omega
        clear hsl h4 o4 hfr C1 D Hlen A
        generalize restDue now S = R at *
        cases R with
        | nil =>
          have HC2 := Lib.hid C2
          have hcl2 : c = len := by simp at hR2; omega
          have HH := Lib.hid hcl2
          clear C2 hR3 hR2
          go_wp2_with fail
          refine HC2.out.mono ?_
          rintro e w5 ⟨rfl, o5⟩
          simp only [firstV]
          have oa : Only [] w4 (w5.alloc (.cells #[.int .i64 0, .int .i64 0] 30)) := o5.alloc _
          have C3 := Lib.hid (heap_len (H4.out.only oa (by simp)))
          have Hend := Lib.hid (O4.out.trans oa)
          have g5 : ((0 : Int) == (len : Int) - (c : Int)) = true := by rw [beq_iff_eq]; omega
          have g6 : decide (c < len) = false := by simp; omega
          clear o5 oa hcl2
          go_wp2_with fail
          refine C3.out.mono ?_
          rintro e w6 ⟨rfl, hw⟩
          subst hw
          go_wp2_with fail
          go_ret
          exact ⟨rfl, Hend.out⟩
        | cons t R =>
          have HC2 := Lib.hid C2
          obtain ⟨tv, tn⟩ := t
          have htv : now < tv := hR3 (tv, tn) (by simp)
          have hl3 : R.length + 1 = len - c := by simpa using hR2
          clear C2 hR3 hR2
          go_wp2_with fail
          refine HC2.out.mono ?_
          rintro e w5 ⟨rfl, o5⟩
          simp only [firstV]
          have oa : Only [] w4 (w5.alloc (.cells #[.int .i64 tv, .int .i64 tn] 30)) := o5.alloc _
          have C3 := Lib.hid (heap_len (H4.out.only oa (by simp)))
          have Hend := Lib.hid (O4.out.trans oa)
          have g5 : ((R.length : Int) + 1 == (len : Int) - (c : Int)) = true := by rw [beq_iff_eq]; omega
          have g6 : decide (c < len) = true := by simp; omega
          have HL3 := Lib.hid hl3
          clear o5 oa hl3
          go_wp2_with fail
          refine C3.out.mono ?_
          rintro e w6 ⟨rfl, hw⟩
          subst hw
          go_wp2_with fail
          go_ret
          exact ⟨rfl, Hend.out⟩

end Go.Proofs.Ytcppnmogdmpdbaa
