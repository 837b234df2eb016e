/- The law PrioKeeps: tells, its loops walked. -/
import Derived.Test.YtbboklmmnnedjaaUk
set_option linter.unusedVariables false
set_option linter.unusedSimpArgs false
namespace Go.Proofs.Ytbboklmmnnedjaa
open Go.RowKit Go.Mk Go.Pr
attribute [-go_sem] Builtin.append_ sliced

theorem drawn_big {m v : Nat} (hm : m < 18446744073709551616) (hv : v < 18446744073709551616) : drawn m v < big := by
  unfold drawn big
  split
  · exact hv
  · exact Nat.lt_of_lt_of_le (Nat.mod_lt _ (by omega)) (by omega)

theorem set3_only (T : Nat) (w : World) (n : Nat) (u v z : Value) : Only [T] w ((((w.drewN n).setCell ⟨T, 0, none⟩ u).setCell ⟨T, 1, none⟩ v).setCell ⟨T, 2, none⟩ z) :=
  ((((Only.refl [T] w).drewN n).setCell (p := ⟨T, 0, none⟩) (.inl (by simp)) u).setCell (p := ⟨T, 1, none⟩) (.inl (by simp)) v).setCell (p := ⟨T, 2, none⟩) (.inl (by simp)) z
theorem set3_only0 (T : Nat) (w : World) (u v z : Value) : Only [T] w (((w.setCell ⟨T, 0, none⟩ u).setCell ⟨T, 1, none⟩ v).setCell ⟨T, 2, none⟩ z) :=
  (((Only.refl [T] w).setCell (p := ⟨T, 0, none⟩) (.inl (by simp)) u).setCell (p := ⟨T, 1, none⟩) (.inl (by simp)) v).setCell (p := ⟨T, 2, none⟩) (.inl (by simp)) z
theorem set3_blk0 {T : Nat} {w : World} {a b c : Value} {e : TypeId} (h : w.heap[T]? = some (.cells #[a, b, c] e (0, 0))) (u v z : Value) : (((w.setCell ⟨T, 0, none⟩ u).setCell ⟨T, 1, none⟩ v).setCell ⟨T, 2, none⟩ z).heap[T]? = some (.cells #[u, v, z] e (0, 0)) := by
  rw [setCell_blk (setCell_blk (setCell_blk h))]
  rfl
theorem set3_blk {T : Nat} {w : World} {a b c : Value} {e : TypeId} (h : w.heap[T]? = some (.cells #[a, b, c] e (0, 0))) (n : Nat) (u v z : Value) : ((((w.drewN n).setCell ⟨T, 0, none⟩ u).setCell ⟨T, 1, none⟩ v).setCell ⟨T, 2, none⟩ z).heap[T]? = some (.cells #[u, v, z] e (0, 0)) := by
  have h1 := ((Only.refl [] w).drewN n).blk h (by simp)
  rw [setCell_blk (setCell_blk (setCell_blk h1))]
  rfl

set_option maxRecDepth 100000 in
set_option maxHeartbeats 8000000 in
theorem tells_walk (keep m : Nat) (a : Option Addr) (cap : Nat) (D : List (Nat × Nat)) (wa : Option Addr) (wcap : Nat) (Wz : List Nat) (ra : Option Addr) (rcap : Nat) (Rz : List Nat) (w : World)
    (hk1 : 1 ≤ keep) (hk2 : keep ≤ 1000) (hm : m < 18446744073709551616) (hD : OffersIn w a D) (hDl : D.length ≤ 40) (hDc : D.length ≤ cap) (hcap : cap ≤ maxLen) (hW : NumsIn .u64 18446744073709551616 w wa Wz) (hWl : Wz.length ≤ maxLen) (hR : NumsIn .u64 18446744073709551616 w ra Rz) (hRl : Rz.length ≤ maxLen) :
    Calls Try.prog 15 #[.int .i64 keep, .int .u64 m, .slice a D.length cap, .slice wa Wz.length wcap, .slice ra Rz.length rcap] w fun e w' => e = .returned (.bool true) ∧ Only [] w w' := by
  have HN := Lib.hid (smpf_new (w := w) keep m hk1 hk2 hm)
  have HRN := Lib.hid (fun Wd => rnew_walk keep m Wd hk1 hk2 hm)
  have HW := Lib.hid hW
  have HR := Lib.hid hR
  unfold maxLen at hcap hWl hRl
  have HD := Lib.hid (And.intro hD (And.intro hDl hDc))
  clear hW hR hD hDl hDc
  go_enter Try.func15, Try.ntmps15
  go_wp2_with fail
  refine HN.out.mono ?_
  rintro e w1 ⟨rfl, s1, o1⟩
  have hhp := s1.lt
  have H1 := Lib.hid (And.intro s1 o1)
  clear s1 o1
  go_wp2_with fail
  refine (HRN.out _).mono ?_
  rintro e w2 ⟨rfl, o2⟩
  have O2 := Lib.hid o2
  clear o2
  unfold refV
  go_wp2_with fail
  obtain ⟨T, hT⟩ : ∃ T, T = w2.heap.size := ⟨_, rfl⟩
  obtain ⟨w3, hw3⟩ : ∃ w3, w3 = w2.alloc (.cells #[.int .i64 keep, .int .u64 m, .slice none 0 0] 66) := ⟨_, rfl⟩
  rw [← hw3, ← hT]
  have bT : w3.heap[T]? = some (.cells #[.int .i64 keep, .int .u64 m, .slice none 0 0] 66 (0, 0)) := by rw [hw3, hT]; exact heap_alloc_new _ _
  have hTw : w.heap.size < T := by rw [hT]; exact O2.out.lt hhp
  have o13 : Only [] w1 w3 := by rw [hw3]; exact O2.out.alloc _
  have s3 : SmpF (fun b => b < w.heap.size ∨ b = T) w3 w.heap.size keep m 0 [] := (H1.out.1.more (fun b hb => by
    rcases hb with h | h
    · exact .inl h
    · right; rw [h, hT]; exact O2.out.size)).shift o13
  have H3 := Lib.hid (And.intro bT (And.intro s3 (H1.out.2.trans o13)))
  clear bT o13 s3 hw3 hT
  go_loopw [14, 2] (fun kv lv wr => ∃ (k : Nat) (a' : Option Addr) (D' : List (Nat × Nat)) (c' : Nat), kv = .int .i64 k ∧ lv = .slice a' D'.length c' ∧ k ≤ 2 ∧ D'.length ≤ c' ∧ c' ≤ 9223372036854775807 ∧ D'.length ≤ 40 ∧ OffersIn w a' D' ∧ wr.heap[T]? = some (.cells #[.int .i64 keep, .int .u64 m, .slice none 0 0] 66 (0, 0)) ∧ SmpF (fun b => b < w.heap.size ∨ b = T) wr w.heap.size keep m 0 [] ∧ Only [] w wr) (fun kv _ _ => 2 - (intOf kv).toNat)
  case atStart => exact ⟨0, a, D, cap, rfl, rfl, by omega, HD.out.2.2, by omega, HD.out.2.1, HD.out.1, H3.out⟩
  case round =>
    obtain ⟨k, a', D', c', rfl, rfl, hk, hDc, hc', hDl, hDI, bT, sT, oT⟩ := hrel
    by_cases hk2' : k < 2
    · have tk2 : decide ((k : Int) < 2) = true := decide_eq_true (by omega)
      have tk2' : decide (k < 2) = true := decide_eq_true hk2'
      obtain ⟨wk, hwk⟩ : ∃ wk, wk = wr := ⟨_, rfl⟩
      subst hwk
      have HK := Lib.hid (And.intro hDI (And.intro bT (And.intro sT oT)))
      clear hDI bT sT oT
      go_wp2_with fail
      go_loopw [15] (fun iv wr => ∃ (i : Nat) (p : Option Addr) (n c : Nat), iv = .int .i64 i ∧ i ≤ D'.length ∧ wr.heap[T]? = some (.cells #[.int .i64 keep, .int .u64 m, .slice p n c] 66 (0, 0)) ∧ SliceIs wr 93 2 ((refL m (accTo Wz Rz D' i)).map encR) (.slice p n c) ∧ SmpF (fun b => b < w.heap.size ∨ b = T ∨ b ∈ blockOf (.slice p n c)) wr w.heap.size keep m (accTo Wz Rz D' i).length (heldS keep m (accTo Wz Rz D' i)) ∧ Only [] w wr ∧ (∀ b ∈ blockOf (.slice p n c), w.heap.size ≤ b ∧ b ≠ T)) (fun iv _ => D'.length - (intOf iv).toNat)
      case atStart => exact ⟨0, none, 0, 0, rfl, Nat.zero_le _, HK.out.2.1, .nil, HK.out.2.2.1.more (fun b hb => by
        rcases hb with h | h | h
        · exact .inl (.inl h)
        · exact .inl (.inr h)
        · simp [blockOf] at h), HK.out.2.2.2, by simp [blockOf]⟩
      case round =>
        obtain ⟨i, p, n, c, rfl, hi, bT, hsl, sT, oT, hbp⟩ := hrel
        obtain ⟨A, hA⟩ : ∃ A, A = accTo Wz Rz D' i := ⟨_, rfl⟩
        have hAl : A.length ≤ i := by rw [hA]; exact accTo_len _ _ _ _
        have hAn : n = A.length := by
          obtain ⟨q, c2, he⟩ := hsl.form
          obtain ⟨_, h6, _⟩ := Value.slice.inj he
          rw [h6, List.length_map, refL_len, ← hA]
        subst hAn
        rw [← hA] at hsl sT
        have d0 : wr.cell? ⟨T, 0, none⟩ = some (.int .i64 keep) := by rw [cell_of_blk bT]; rfl
        have d1 : wr.cell? ⟨T, 1, none⟩ = some (.int .u64 m) := by rw [cell_of_blk bT]; rfl
        have d2 : wr.cell? ⟨T, 2, none⟩ = some (.slice p A.length c) := by rw [cell_of_blk bT]; rfl
        have hTl : T < wr.heap.size := lt_of_blk bT
        by_cases hil : i < D'.length
        · obtain ⟨b, off, W, V, rfl, hb, hget, hW8, hV8, k0, k1⟩ := HK.out.1.at oT hil
          have hgD : D'.getD i (0, 0) = (W, V) := by simp [List.getD, hget]
          have hacc : accTo Wz Rz D' (i + 1) = if 1 ≤ offW Wz i W ∧ offW Wz i W ≤ 4294967296 then A ++ [(offW Wz i W, offD Rz i V)] else A := by
            rw [accTo, hgD, ← hA]
          have HI := Lib.hid (And.intro hacc (And.intro bT (And.intro hsl (And.intro sT (And.intro oT hbp)))))
          have hiD : (i : Int) < (D'.length : Int) := by omega
          clear hacc hgD hget bT hsl sT hbp hA
          have hRc : ∃ y : Nat, y = offD Rz i V ∧ y < 18446744073709551616 := by
            refine ⟨_, rfl, ?_⟩
            unfold offD
            split
            · rename_i h1
              have h2 : Rz.getD i 0 ∈ Rz := by simp [List.getD, List.getElem?_eq_getElem h1]
              exact HR.out.small _ h2
            · omega
          obtain ⟨y, hy, hyb⟩ := hRc
          have hWc : ∃ x : Nat, x = offW Wz i W ∧ x < 4294967298 := by
            refine ⟨_, rfl, ?_⟩
            unfold offW
            split
            · exact Nat.mod_lt _ (by omega)
            · omega
          obtain ⟨x, hx, hxb⟩ := hWc
          rw [← hx, ← hy] at HI
          by_cases hRc : i < Rz.length
          · have hRc' := hRc
            have hRx := HR.out.at oT (by assumption)
            obtain ⟨rb, roff, ry, rfl, hrb, hrget, hryb, kr⟩ := hRx
            have hye : y = ry := by rw [hy]; unfold offD; rw [if_pos (by assumption)]; simp [List.getD, hrget]
            subst hye
            have tR : decide ((i : Int) < (Rz.length : Int)) = true := decide_eq_true (by omega)
            have tR' : decide (i < Rz.length) = true := decide_eq_true (by assumption)
            have hrI : (i : Int) < (Rz.length : Int) := by omega
            clear hrget
            by_cases hWc : i < Wz.length
            · have hWc' := hWc
              have hWx := HW.out.at oT (by assumption)
              obtain ⟨wb, woff, wx, rfl, hwb, hwget, hwxb, kw⟩ := hWx
              have hxe : (wx : Int) % 4294967298 = (x : Int) := by
                have h1 : x = wx % 4294967298 := by rw [hx]; unfold offW; rw [if_pos (by assumption)]; simp [List.getD, hwget]
                omega
              have tW : decide ((i : Int) < (Wz.length : Int)) = true := decide_eq_true (by omega)
              have tW' : decide (i < Wz.length) = true := decide_eq_true (by assumption)
              have hwI : (i : Int) < (Wz.length : Int) := by omega
              clear hwget
              clear hx hy oT hRc hRc' hWc hWc'
              by_cases hacc : 1 ≤ x ∧ x ≤ 4294967296
              · have hacc' := hacc
                have hac : 1 ≤ x ∧ x ≤ 4294967296 := hacc
                have hnx := HI.out.1
                rw [if_pos hac] at hnx
                have HNX := Lib.hid hnx
                have HAC := Lib.hid hac
                clear hnx hacc hac
                go_wp2_with fail
                refine (radd_walk keep m (.slice p A.length c) (refL m A) x y _ HI.out.2.2.1 (by rw [refL_len]; omega) HAC.out.1 HAC.out.2 hm hyb).mono ?_
                rintro e v1 ⟨sv1, rfl, hs1, p1, hn1⟩
                obtain ⟨q1, c1, hq1⟩ := hs1.form
                have hlq : ((refL m A ++ [(x, drawn m y)]).map encR).length = A.length + 1 := by simp [refL_len]
                rw [hlq] at hq1
                subst hq1
                rw [refL_len]
                have hrL : refL m (A ++ [(x, y)]) = refL m A ++ [(x, drawn m y)] := by simp [refL]
                have hs1' : SliceIs v1 93 2 ((refL m (A ++ [(x, y)])).map encR) (.slice q1 (A.length + 1) c1) := by rw [hrL]; exact hs1
                have P1 := Lib.hid (And.intro hs1' (And.intro p1 hn1))
                clear hs1 hs1' p1 hn1 hlq hrL
                unfold refV
                go_wp2_with fail
                obtain ⟨v2, hv2⟩ : ∃ v2, v2 = v1.alloc (.cells #[.int .i64 keep, .int .u64 m, .slice q1 (A.length + 1) c1] 66) := ⟨_, rfl⟩
                have p12 : Only [] v1 v2 := by rw [hv2]; exact (Only.refl _ _).alloc _
                have pv := P1.out.2.1.trans p12
                have hs2 := P1.out.1.only p12 (by simp)
                have bv : v2.heap[v1.heap.size]? = some (.cells #[.int .i64 keep, .int .u64 m, .slice q1 (A.length + 1) c1] 66 (0, 0)) := by rw [hv2]; exact heap_alloc_new _ _
                have hv1s := P1.out.2.1.size
                have hq1l := P1.out.1.lt
                have sv : SmpF (fun b => b < w.heap.size ∨ b = T ∨ b ∈ blockOf (.slice q1 (A.length + 1) c1) ∨ b = v1.heap.size) v2 w.heap.size keep m A.length (heldS keep m A) := (HI.out.2.2.2.1.more (fun b hb => by
                  rcases hb with h | h | h | h
                  · exact .inl (.inl h)
                  · exact .inl (.inr (.inl h))
                  · exact .inr (P1.out.2.2 b h)
                  · right; omega)).shift pv
                have hvl := lt_of_blk bv
                have hadd := smpf_add sv (fun b hb => by
                  rcases hb with h | h | h | h
                  · have := HI.out.2.2.2.2.1.size; omega
                  · omega
                  · have := hq1l b h; omega
                  · omega) x y HAC.out.1 HAC.out.2 hyb (by omega)
                have PA := Lib.hid (And.intro hadd (And.intro pv (And.intro bv (And.intro hs2 hq1l))))
                clear hadd sv pv bv hs2 hq1l p12
                rw [← hv2]
                clear hv2
                refine PA.out.1.mono ?_
                rintro e v3 ⟨rfl, s3, T3, hT3, p3⟩
                obtain ⟨_, pv, bv, hs2, hq1l⟩ := PA.out
                have hTF : T ∉ T3 := fun hm3 => hT3 T hm3 (.inr (.inl rfl))
                have hVF : v1.heap.size ∉ T3 := fun hm3 => hT3 _ hm3 (.inr (.inr (.inr rfl)))
                have bT3 := p3.blk (pv.blk HI.out.2.1 (by simp)) hTF
                have bV3 := p3.blk bv hVF
                have hs3 := hs2.only p3 (fun b hb hm3 => hT3 b hm3 (.inr (.inr (.inl hb))))
                have hhs : heldS keep m (A ++ [(x, y)]) = addS keep (heldS keep m A) ⟨x, drawn m y, A.length⟩ := heldS_app keep m A (x, y)
                rw [← hhs] at s3
                have p03 : Only [] w v3 := ⟨p3.os.trans (HI.out.2.2.2.2.1.trans pv).os, p3.tape.trans (HI.out.2.2.2.2.1.trans pv).tape, p3.output.trans (HI.out.2.2.2.2.1.trans pv).output, Nat.le_trans (HI.out.2.2.2.2.1.trans pv).size p3.size, fun q hq _ => (p3.block q (Nat.lt_of_lt_of_le hq (HI.out.2.2.2.2.1.trans pv).size) (fun hm3 => hT3 q hm3 (.inl hq))).trans ((HI.out.2.2.2.2.1.trans pv).block q hq (by simp))⟩
                have PB := Lib.hid (And.intro s3 (And.intro hs3 (And.intro p03 bT3)))
                have e0 : v3.cell? ⟨v1.heap.size, 0, none⟩ = some (.int .i64 keep) := by rw [cell_of_blk bV3]; rfl
                have e1 : v3.cell? ⟨v1.heap.size, 1, none⟩ = some (.int .u64 m) := by rw [cell_of_blk bV3]; rfl
                have e2 : v3.cell? ⟨v1.heap.size, 2, none⟩ = some (.slice q1 (A.length + 1) c1) := by rw [cell_of_blk bV3]; rfl
                have g0 : v3.cell? ⟨T, 0, none⟩ = some (.int .i64 keep) := by rw [cell_of_blk bT3]; rfl
                have g1 : v3.cell? ⟨T, 1, none⟩ = some (.int .u64 m) := by rw [cell_of_blk bT3]; rfl
                have g2 : v3.cell? ⟨T, 2, none⟩ = some (.slice p A.length c) := by rw [cell_of_blk bT3]; rfl
                have gf : ∀ i, v3.frozen? ⟨T, i, none⟩ = false := fun i => frozen_of_blk bT3
                have gl : T < v3.heap.size := lt_of_blk bT3
                have tA : ((A.length : Int) != (A.length : Int)) = false := by simp
                have tB : (((A.length : Int) + 1) != ((A.length : Int) + 1)) = false := by simp
                have HL := Lib.hid (fun n => smpf_len (s3.shift ((Only.refl [] v3).drewN n)))
                have hne : ¬ v1.heap.size = T := by omega
                have hne2 : ¬ T = v1.heap.size := by omega
                clear s3 hs3 p03 bT3 bV3 hhs pv bv hs2 hq1l p3 hT3 hTF hVF
                go_wp2_with fail
                go_quiet ((go_at_call 14; exact Calls.quiet_of_same (HL.out _)))
                go_wp2_with fail
                go_roundw
                case rel =>
                  refine ⟨i + 1, q1, A.length + 1, c1, by go_num, by omega, ?_, ?_, ?_, ?_, ?_⟩
                  · exact set3_blk PB.out.2.2.2 nq _ _ _
                  · rw [HNX.out]
                    refine PB.out.2.1.only (set3_only T _ nq _ _ _) (fun b hb => ?_)
                    have := P1.out.2.2 b hb
                    simp only [List.mem_singleton]
                    omega
                  · rw [HNX.out]
                    have h1 := PB.out.1.apart (set3_only T v3 nq (.int .i64 keep) (.int .u64 m) (.slice q1 (A.length + 1) c1)) (fun b hb => by
                      simp only [List.mem_singleton] at hb
                      exact .inr (.inl hb))
                    have h2 := h1.more (G := fun b => b < w.heap.size ∨ b = T ∨ b ∈ blockOf (.slice q1 (A.length + 1) c1)) (fun b hb => by
                      rcases hb with h | h | h
                      · exact .inl (.inl h)
                      · exact .inl (.inr (.inl h))
                      · exact .inl (.inr (.inr (.inl h))))
                    simpa using h2
                  · exact PB.out.2.2.1.trans' (set3_only T _ nq _ _ _) (fun b hb hlt => by simp only [List.mem_singleton] at hb; omega)
                  · intro b hb
                    have h1 := P1.out.2.2 b hb
                    have h2 := HI.out.2.2.2.2.1.size
                    omega
                case measure => simp [intOf]; omega
              · have hacc' := hacc
                have hac : ¬ (1 ≤ x ∧ x ≤ 4294967296) := hacc
                have hnx := HI.out.1
                rw [if_neg hac] at hnx
                have HNX := Lib.hid hnx
                have hre : x = 0 ∨ 4294967296 < x := by omega
                have HAC := Lib.hid hre
                clear hnx hacc hac hre
                have C2 := Lib.hid (fun (q : Value) Wd => sampler_refuse (w := Wd) q x y HAC.out)
                go_wp2_with fail
                refine (radd_refuse keep m p A.length c x y _ HAC.out (by omega)).mono ?_
                rintro e v1 ⟨rfl, p1⟩
                have hs1 := HI.out.2.2.1.only p1 (by simp)
                have P1 := Lib.hid (And.intro hs1 p1)
                have hv1s := p1.size
                clear hs1 p1
                unfold refV
                go_wp2_with fail
                obtain ⟨v2, hv2⟩ : ∃ v2, v2 = v1.alloc (.cells #[.int .i64 keep, .int .u64 m, .slice p A.length c] 66) := ⟨_, rfl⟩
                have p12 : Only [] v1 v2 := by rw [hv2]; exact (Only.refl _ _).alloc _
                have pv := P1.out.2.trans p12
                have hs2 := P1.out.1.only p12 (by simp)
                have bv : v2.heap[v1.heap.size]? = some (.cells #[.int .i64 keep, .int .u64 m, .slice p A.length c] 66 (0, 0)) := by rw [hv2]; exact heap_alloc_new _ _
                have bT3 := pv.blk HI.out.2.1 (by simp)
                have sv := HI.out.2.2.2.1.shift pv
                have PB := Lib.hid (And.intro sv (And.intro hs2 (And.intro (HI.out.2.2.2.2.1.trans pv) bT3)))
                have e0 : v2.cell? ⟨v1.heap.size, 0, none⟩ = some (.int .i64 keep) := by rw [cell_of_blk bv]; rfl
                have e1 : v2.cell? ⟨v1.heap.size, 1, none⟩ = some (.int .u64 m) := by rw [cell_of_blk bv]; rfl
                have e2 : v2.cell? ⟨v1.heap.size, 2, none⟩ = some (.slice p A.length c) := by rw [cell_of_blk bv]; rfl
                have g0 : v2.cell? ⟨T, 0, none⟩ = some (.int .i64 keep) := by rw [cell_of_blk bT3]; rfl
                have g1 : v2.cell? ⟨T, 1, none⟩ = some (.int .u64 m) := by rw [cell_of_blk bT3]; rfl
                have g2 : v2.cell? ⟨T, 2, none⟩ = some (.slice p A.length c) := by rw [cell_of_blk bT3]; rfl
                have gf : ∀ i, v2.frozen? ⟨T, i, none⟩ = false := fun i => frozen_of_blk bT3
                have gl : T < v2.heap.size := lt_of_blk bT3
                have tA : ((A.length : Int) != (A.length : Int)) = false := by simp
                have HL := Lib.hid (fun n => smpf_len (sv.shift ((Only.refl [] v2).drewN n)))
                have hne : ¬ v1.heap.size = T := by omega
                have hne2 : ¬ T = v1.heap.size := by omega
                rw [← hv2]
                clear sv hs2 bv bT3 pv p12 hv2
                refine (C2.out _ _).mono ?_
                rintro e v3 ⟨rfl, hv3⟩
                obtain rfl : v2 = v3 := hv3.symm
                go_wp2_with fail
                go_quiet ((go_at_call 14; exact Calls.quiet_of_same (HL.out _)))
                go_wp2_with fail
                go_roundw
                case rel =>
                  refine ⟨i + 1, p, A.length, c, by go_num, by omega, ?_, ?_, ?_, ?_, ?_⟩
                  · exact set3_blk PB.out.2.2.2 nq _ _ _
                  · rw [HNX.out]
                    refine PB.out.2.1.only (set3_only T _ nq _ _ _) (fun b hb => ?_)
                    have := HI.out.2.2.2.2.2 b hb
                    simp only [List.mem_singleton]
                    exact this.2
                  · rw [HNX.out]
                    exact PB.out.1.apart (set3_only T v2 nq (.int .i64 keep) (.int .u64 m) (.slice p A.length c)) (fun b hb => by
                      simp only [List.mem_singleton] at hb
                      exact .inr (.inl hb))
                  · exact PB.out.2.2.1.trans' (set3_only T _ nq _ _ _) (fun b hb hlt => by simp only [List.mem_singleton] at hb; omega)
                  · exact HI.out.2.2.2.2.2
                case measure => simp [intOf]; omega
            · have hWc' := hWc
              have hxe : (W : Int) % 20 = (x : Int) := by
                have h1 : x = W % 20 := by rw [hx]; unfold offW; rw [if_neg (by assumption)]
                omega
              have tW : decide ((i : Int) < (Wz.length : Int)) = false := decide_eq_false (by omega)
              have tW' : decide (i < Wz.length) = false := decide_eq_false (by assumption)
              clear hx hy oT hRc hRc' hWc hWc'
              by_cases hacc : 1 ≤ x ∧ x ≤ 4294967296
              · have hacc' := hacc
                have hac : 1 ≤ x ∧ x ≤ 4294967296 := hacc
                have hnx := HI.out.1
                rw [if_pos hac] at hnx
                have HNX := Lib.hid hnx
                have HAC := Lib.hid hac
                clear hnx hacc hac
                go_wp2_with fail
                refine (radd_walk keep m (.slice p A.length c) (refL m A) x y _ HI.out.2.2.1 (by rw [refL_len]; omega) HAC.out.1 HAC.out.2 hm hyb).mono ?_
                rintro e v1 ⟨sv1, rfl, hs1, p1, hn1⟩
                obtain ⟨q1, c1, hq1⟩ := hs1.form
                have hlq : ((refL m A ++ [(x, drawn m y)]).map encR).length = A.length + 1 := by simp [refL_len]
                rw [hlq] at hq1
                subst hq1
                rw [refL_len]
                have hrL : refL m (A ++ [(x, y)]) = refL m A ++ [(x, drawn m y)] := by simp [refL]
                have hs1' : SliceIs v1 93 2 ((refL m (A ++ [(x, y)])).map encR) (.slice q1 (A.length + 1) c1) := by rw [hrL]; exact hs1
                have P1 := Lib.hid (And.intro hs1' (And.intro p1 hn1))
                clear hs1 hs1' p1 hn1 hlq hrL
                unfold refV
                go_wp2_with fail
                obtain ⟨v2, hv2⟩ : ∃ v2, v2 = v1.alloc (.cells #[.int .i64 keep, .int .u64 m, .slice q1 (A.length + 1) c1] 66) := ⟨_, rfl⟩
                have p12 : Only [] v1 v2 := by rw [hv2]; exact (Only.refl _ _).alloc _
                have pv := P1.out.2.1.trans p12
                have hs2 := P1.out.1.only p12 (by simp)
                have bv : v2.heap[v1.heap.size]? = some (.cells #[.int .i64 keep, .int .u64 m, .slice q1 (A.length + 1) c1] 66 (0, 0)) := by rw [hv2]; exact heap_alloc_new _ _
                have hv1s := P1.out.2.1.size
                have hq1l := P1.out.1.lt
                have sv : SmpF (fun b => b < w.heap.size ∨ b = T ∨ b ∈ blockOf (.slice q1 (A.length + 1) c1) ∨ b = v1.heap.size) v2 w.heap.size keep m A.length (heldS keep m A) := (HI.out.2.2.2.1.more (fun b hb => by
                  rcases hb with h | h | h | h
                  · exact .inl (.inl h)
                  · exact .inl (.inr (.inl h))
                  · exact .inr (P1.out.2.2 b h)
                  · right; omega)).shift pv
                have hvl := lt_of_blk bv
                have hadd := smpf_add sv (fun b hb => by
                  rcases hb with h | h | h | h
                  · have := HI.out.2.2.2.2.1.size; omega
                  · omega
                  · have := hq1l b h; omega
                  · omega) x y HAC.out.1 HAC.out.2 hyb (by omega)
                have PA := Lib.hid (And.intro hadd (And.intro pv (And.intro bv (And.intro hs2 hq1l))))
                clear hadd sv pv bv hs2 hq1l p12
                rw [← hv2]
                clear hv2
                refine PA.out.1.mono ?_
                rintro e v3 ⟨rfl, s3, T3, hT3, p3⟩
                obtain ⟨_, pv, bv, hs2, hq1l⟩ := PA.out
                have hTF : T ∉ T3 := fun hm3 => hT3 T hm3 (.inr (.inl rfl))
                have hVF : v1.heap.size ∉ T3 := fun hm3 => hT3 _ hm3 (.inr (.inr (.inr rfl)))
                have bT3 := p3.blk (pv.blk HI.out.2.1 (by simp)) hTF
                have bV3 := p3.blk bv hVF
                have hs3 := hs2.only p3 (fun b hb hm3 => hT3 b hm3 (.inr (.inr (.inl hb))))
                have hhs : heldS keep m (A ++ [(x, y)]) = addS keep (heldS keep m A) ⟨x, drawn m y, A.length⟩ := heldS_app keep m A (x, y)
                rw [← hhs] at s3
                have p03 : Only [] w v3 := ⟨p3.os.trans (HI.out.2.2.2.2.1.trans pv).os, p3.tape.trans (HI.out.2.2.2.2.1.trans pv).tape, p3.output.trans (HI.out.2.2.2.2.1.trans pv).output, Nat.le_trans (HI.out.2.2.2.2.1.trans pv).size p3.size, fun q hq _ => (p3.block q (Nat.lt_of_lt_of_le hq (HI.out.2.2.2.2.1.trans pv).size) (fun hm3 => hT3 q hm3 (.inl hq))).trans ((HI.out.2.2.2.2.1.trans pv).block q hq (by simp))⟩
                have PB := Lib.hid (And.intro s3 (And.intro hs3 (And.intro p03 bT3)))
                have e0 : v3.cell? ⟨v1.heap.size, 0, none⟩ = some (.int .i64 keep) := by rw [cell_of_blk bV3]; rfl
                have e1 : v3.cell? ⟨v1.heap.size, 1, none⟩ = some (.int .u64 m) := by rw [cell_of_blk bV3]; rfl
                have e2 : v3.cell? ⟨v1.heap.size, 2, none⟩ = some (.slice q1 (A.length + 1) c1) := by rw [cell_of_blk bV3]; rfl
                have g0 : v3.cell? ⟨T, 0, none⟩ = some (.int .i64 keep) := by rw [cell_of_blk bT3]; rfl
                have g1 : v3.cell? ⟨T, 1, none⟩ = some (.int .u64 m) := by rw [cell_of_blk bT3]; rfl
                have g2 : v3.cell? ⟨T, 2, none⟩ = some (.slice p A.length c) := by rw [cell_of_blk bT3]; rfl
                have gf : ∀ i, v3.frozen? ⟨T, i, none⟩ = false := fun i => frozen_of_blk bT3
                have gl : T < v3.heap.size := lt_of_blk bT3
                have tA : ((A.length : Int) != (A.length : Int)) = false := by simp
                have tB : (((A.length : Int) + 1) != ((A.length : Int) + 1)) = false := by simp
                have HL := Lib.hid (fun n => smpf_len (s3.shift ((Only.refl [] v3).drewN n)))
                have hne : ¬ v1.heap.size = T := by omega
                have hne2 : ¬ T = v1.heap.size := by omega
                clear s3 hs3 p03 bT3 bV3 hhs pv bv hs2 hq1l p3 hT3 hTF hVF
                go_wp2_with fail
                go_quiet ((go_at_call 14; exact Calls.quiet_of_same (HL.out _)))
                go_wp2_with fail
                go_roundw
                case rel =>
                  refine ⟨i + 1, q1, A.length + 1, c1, by go_num, by omega, ?_, ?_, ?_, ?_, ?_⟩
                  · exact set3_blk PB.out.2.2.2 nq _ _ _
                  · rw [HNX.out]
                    refine PB.out.2.1.only (set3_only T _ nq _ _ _) (fun b hb => ?_)
                    have := P1.out.2.2 b hb
                    simp only [List.mem_singleton]
                    omega
                  · rw [HNX.out]
                    have h1 := PB.out.1.apart (set3_only T v3 nq (.int .i64 keep) (.int .u64 m) (.slice q1 (A.length + 1) c1)) (fun b hb => by
                      simp only [List.mem_singleton] at hb
                      exact .inr (.inl hb))
                    have h2 := h1.more (G := fun b => b < w.heap.size ∨ b = T ∨ b ∈ blockOf (.slice q1 (A.length + 1) c1)) (fun b hb => by
                      rcases hb with h | h | h
                      · exact .inl (.inl h)
                      · exact .inl (.inr (.inl h))
                      · exact .inl (.inr (.inr (.inl h))))
                    simpa using h2
                  · exact PB.out.2.2.1.trans' (set3_only T _ nq _ _ _) (fun b hb hlt => by simp only [List.mem_singleton] at hb; omega)
                  · intro b hb
                    have h1 := P1.out.2.2 b hb
                    have h2 := HI.out.2.2.2.2.1.size
                    omega
                case measure => simp [intOf]; omega
              · have hacc' := hacc
                have hac : ¬ (1 ≤ x ∧ x ≤ 4294967296) := hacc
                have hnx := HI.out.1
                rw [if_neg hac] at hnx
                have HNX := Lib.hid hnx
                have hre : x = 0 ∨ 4294967296 < x := by omega
                have HAC := Lib.hid hre
                clear hnx hacc hac hre
                have C2 := Lib.hid (fun (q : Value) Wd => sampler_refuse (w := Wd) q x y HAC.out)
                go_wp2_with fail
                refine (radd_refuse keep m p A.length c x y _ HAC.out (by omega)).mono ?_
                rintro e v1 ⟨rfl, p1⟩
                have hs1 := HI.out.2.2.1.only p1 (by simp)
                have P1 := Lib.hid (And.intro hs1 p1)
                have hv1s := p1.size
                clear hs1 p1
                unfold refV
                go_wp2_with fail
                obtain ⟨v2, hv2⟩ : ∃ v2, v2 = v1.alloc (.cells #[.int .i64 keep, .int .u64 m, .slice p A.length c] 66) := ⟨_, rfl⟩
                have p12 : Only [] v1 v2 := by rw [hv2]; exact (Only.refl _ _).alloc _
                have pv := P1.out.2.trans p12
                have hs2 := P1.out.1.only p12 (by simp)
                have bv : v2.heap[v1.heap.size]? = some (.cells #[.int .i64 keep, .int .u64 m, .slice p A.length c] 66 (0, 0)) := by rw [hv2]; exact heap_alloc_new _ _
                have bT3 := pv.blk HI.out.2.1 (by simp)
                have sv := HI.out.2.2.2.1.shift pv
                have PB := Lib.hid (And.intro sv (And.intro hs2 (And.intro (HI.out.2.2.2.2.1.trans pv) bT3)))
                have e0 : v2.cell? ⟨v1.heap.size, 0, none⟩ = some (.int .i64 keep) := by rw [cell_of_blk bv]; rfl
                have e1 : v2.cell? ⟨v1.heap.size, 1, none⟩ = some (.int .u64 m) := by rw [cell_of_blk bv]; rfl
                have e2 : v2.cell? ⟨v1.heap.size, 2, none⟩ = some (.slice p A.length c) := by rw [cell_of_blk bv]; rfl
                have g0 : v2.cell? ⟨T, 0, none⟩ = some (.int .i64 keep) := by rw [cell_of_blk bT3]; rfl
                have g1 : v2.cell? ⟨T, 1, none⟩ = some (.int .u64 m) := by rw [cell_of_blk bT3]; rfl
                have g2 : v2.cell? ⟨T, 2, none⟩ = some (.slice p A.length c) := by rw [cell_of_blk bT3]; rfl
                have gf : ∀ i, v2.frozen? ⟨T, i, none⟩ = false := fun i => frozen_of_blk bT3
                have gl : T < v2.heap.size := lt_of_blk bT3
                have tA : ((A.length : Int) != (A.length : Int)) = false := by simp
                have HL := Lib.hid (fun n => smpf_len (sv.shift ((Only.refl [] v2).drewN n)))
                have hne : ¬ v1.heap.size = T := by omega
                have hne2 : ¬ T = v1.heap.size := by omega
                rw [← hv2]
                clear sv hs2 bv bT3 pv p12 hv2
                refine (C2.out _ _).mono ?_
                rintro e v3 ⟨rfl, hv3⟩
                obtain rfl : v2 = v3 := hv3.symm
                go_wp2_with fail
                go_quiet ((go_at_call 14; exact Calls.quiet_of_same (HL.out _)))
                go_wp2_with fail
                go_roundw
                case rel =>
                  refine ⟨i + 1, p, A.length, c, by go_num, by omega, ?_, ?_, ?_, ?_, ?_⟩
                  · exact set3_blk PB.out.2.2.2 nq _ _ _
                  · rw [HNX.out]
                    refine PB.out.2.1.only (set3_only T _ nq _ _ _) (fun b hb => ?_)
                    have := HI.out.2.2.2.2.2 b hb
                    simp only [List.mem_singleton]
                    exact this.2
                  · rw [HNX.out]
                    exact PB.out.1.apart (set3_only T v2 nq (.int .i64 keep) (.int .u64 m) (.slice p A.length c)) (fun b hb => by
                      simp only [List.mem_singleton] at hb
                      exact .inr (.inl hb))
                  · exact PB.out.2.2.1.trans' (set3_only T _ nq _ _ _) (fun b hb hlt => by simp only [List.mem_singleton] at hb; omega)
                  · exact HI.out.2.2.2.2.2
                case measure => simp [intOf]; omega
          · have hRc' := hRc
            have hye : y = V := by rw [hy]; unfold offD; rw [if_neg (by assumption)]
            subst hye
            have tR : decide ((i : Int) < (Rz.length : Int)) = false := decide_eq_false (by omega)
            have tR' : decide (i < Rz.length) = false := decide_eq_false (by assumption)
            by_cases hWc : i < Wz.length
            · have hWc' := hWc
              have hWx := HW.out.at oT (by assumption)
              obtain ⟨wb, woff, wx, rfl, hwb, hwget, hwxb, kw⟩ := hWx
              have hxe : (wx : Int) % 4294967298 = (x : Int) := by
                have h1 : x = wx % 4294967298 := by rw [hx]; unfold offW; rw [if_pos (by assumption)]; simp [List.getD, hwget]
                omega
              have tW : decide ((i : Int) < (Wz.length : Int)) = true := decide_eq_true (by omega)
              have tW' : decide (i < Wz.length) = true := decide_eq_true (by assumption)
              have hwI : (i : Int) < (Wz.length : Int) := by omega
              clear hwget
              clear hx hy oT hRc hRc' hWc hWc'
              by_cases hacc : 1 ≤ x ∧ x ≤ 4294967296
              · have hacc' := hacc
                have hac : 1 ≤ x ∧ x ≤ 4294967296 := hacc
                have hnx := HI.out.1
                rw [if_pos hac] at hnx
                have HNX := Lib.hid hnx
                have HAC := Lib.hid hac
                clear hnx hacc hac
                go_wp2_with fail
                refine (radd_walk keep m (.slice p A.length c) (refL m A) x y _ HI.out.2.2.1 (by rw [refL_len]; omega) HAC.out.1 HAC.out.2 hm hyb).mono ?_
                rintro e v1 ⟨sv1, rfl, hs1, p1, hn1⟩
                obtain ⟨q1, c1, hq1⟩ := hs1.form
                have hlq : ((refL m A ++ [(x, drawn m y)]).map encR).length = A.length + 1 := by simp [refL_len]
                rw [hlq] at hq1
                subst hq1
                rw [refL_len]
                have hrL : refL m (A ++ [(x, y)]) = refL m A ++ [(x, drawn m y)] := by simp [refL]
                have hs1' : SliceIs v1 93 2 ((refL m (A ++ [(x, y)])).map encR) (.slice q1 (A.length + 1) c1) := by rw [hrL]; exact hs1
                have P1 := Lib.hid (And.intro hs1' (And.intro p1 hn1))
                clear hs1 hs1' p1 hn1 hlq hrL
                unfold refV
                go_wp2_with fail
                obtain ⟨v2, hv2⟩ : ∃ v2, v2 = v1.alloc (.cells #[.int .i64 keep, .int .u64 m, .slice q1 (A.length + 1) c1] 66) := ⟨_, rfl⟩
                have p12 : Only [] v1 v2 := by rw [hv2]; exact (Only.refl _ _).alloc _
                have pv := P1.out.2.1.trans p12
                have hs2 := P1.out.1.only p12 (by simp)
                have bv : v2.heap[v1.heap.size]? = some (.cells #[.int .i64 keep, .int .u64 m, .slice q1 (A.length + 1) c1] 66 (0, 0)) := by rw [hv2]; exact heap_alloc_new _ _
                have hv1s := P1.out.2.1.size
                have hq1l := P1.out.1.lt
                have sv : SmpF (fun b => b < w.heap.size ∨ b = T ∨ b ∈ blockOf (.slice q1 (A.length + 1) c1) ∨ b = v1.heap.size) v2 w.heap.size keep m A.length (heldS keep m A) := (HI.out.2.2.2.1.more (fun b hb => by
                  rcases hb with h | h | h | h
                  · exact .inl (.inl h)
                  · exact .inl (.inr (.inl h))
                  · exact .inr (P1.out.2.2 b h)
                  · right; omega)).shift pv
                have hvl := lt_of_blk bv
                have hadd := smpf_add sv (fun b hb => by
                  rcases hb with h | h | h | h
                  · have := HI.out.2.2.2.2.1.size; omega
                  · omega
                  · have := hq1l b h; omega
                  · omega) x y HAC.out.1 HAC.out.2 hyb (by omega)
                have PA := Lib.hid (And.intro hadd (And.intro pv (And.intro bv (And.intro hs2 hq1l))))
                clear hadd sv pv bv hs2 hq1l p12
                rw [← hv2]
                clear hv2
                refine PA.out.1.mono ?_
                rintro e v3 ⟨rfl, s3, T3, hT3, p3⟩
                obtain ⟨_, pv, bv, hs2, hq1l⟩ := PA.out
                have hTF : T ∉ T3 := fun hm3 => hT3 T hm3 (.inr (.inl rfl))
                have hVF : v1.heap.size ∉ T3 := fun hm3 => hT3 _ hm3 (.inr (.inr (.inr rfl)))
                have bT3 := p3.blk (pv.blk HI.out.2.1 (by simp)) hTF
                have bV3 := p3.blk bv hVF
                have hs3 := hs2.only p3 (fun b hb hm3 => hT3 b hm3 (.inr (.inr (.inl hb))))
                have hhs : heldS keep m (A ++ [(x, y)]) = addS keep (heldS keep m A) ⟨x, drawn m y, A.length⟩ := heldS_app keep m A (x, y)
                rw [← hhs] at s3
                have p03 : Only [] w v3 := ⟨p3.os.trans (HI.out.2.2.2.2.1.trans pv).os, p3.tape.trans (HI.out.2.2.2.2.1.trans pv).tape, p3.output.trans (HI.out.2.2.2.2.1.trans pv).output, Nat.le_trans (HI.out.2.2.2.2.1.trans pv).size p3.size, fun q hq _ => (p3.block q (Nat.lt_of_lt_of_le hq (HI.out.2.2.2.2.1.trans pv).size) (fun hm3 => hT3 q hm3 (.inl hq))).trans ((HI.out.2.2.2.2.1.trans pv).block q hq (by simp))⟩
                have PB := Lib.hid (And.intro s3 (And.intro hs3 (And.intro p03 bT3)))
                have e0 : v3.cell? ⟨v1.heap.size, 0, none⟩ = some (.int .i64 keep) := by rw [cell_of_blk bV3]; rfl
                have e1 : v3.cell? ⟨v1.heap.size, 1, none⟩ = some (.int .u64 m) := by rw [cell_of_blk bV3]; rfl
                have e2 : v3.cell? ⟨v1.heap.size, 2, none⟩ = some (.slice q1 (A.length + 1) c1) := by rw [cell_of_blk bV3]; rfl
                have g0 : v3.cell? ⟨T, 0, none⟩ = some (.int .i64 keep) := by rw [cell_of_blk bT3]; rfl
                have g1 : v3.cell? ⟨T, 1, none⟩ = some (.int .u64 m) := by rw [cell_of_blk bT3]; rfl
                have g2 : v3.cell? ⟨T, 2, none⟩ = some (.slice p A.length c) := by rw [cell_of_blk bT3]; rfl
                have gf : ∀ i, v3.frozen? ⟨T, i, none⟩ = false := fun i => frozen_of_blk bT3
                have gl : T < v3.heap.size := lt_of_blk bT3
                have tA : ((A.length : Int) != (A.length : Int)) = false := by simp
                have tB : (((A.length : Int) + 1) != ((A.length : Int) + 1)) = false := by simp
                have HL := Lib.hid (fun n => smpf_len (s3.shift ((Only.refl [] v3).drewN n)))
                have hne : ¬ v1.heap.size = T := by omega
                have hne2 : ¬ T = v1.heap.size := by omega
                clear s3 hs3 p03 bT3 bV3 hhs pv bv hs2 hq1l p3 hT3 hTF hVF
                go_wp2_with fail
                go_quiet ((go_at_call 14; exact Calls.quiet_of_same (HL.out _)))
                go_wp2_with fail
                go_roundw
                case rel =>
                  refine ⟨i + 1, q1, A.length + 1, c1, by go_num, by omega, ?_, ?_, ?_, ?_, ?_⟩
                  · exact set3_blk PB.out.2.2.2 nq _ _ _
                  · rw [HNX.out]
                    refine PB.out.2.1.only (set3_only T _ nq _ _ _) (fun b hb => ?_)
                    have := P1.out.2.2 b hb
                    simp only [List.mem_singleton]
                    omega
                  · rw [HNX.out]
                    have h1 := PB.out.1.apart (set3_only T v3 nq (.int .i64 keep) (.int .u64 m) (.slice q1 (A.length + 1) c1)) (fun b hb => by
                      simp only [List.mem_singleton] at hb
                      exact .inr (.inl hb))
                    have h2 := h1.more (G := fun b => b < w.heap.size ∨ b = T ∨ b ∈ blockOf (.slice q1 (A.length + 1) c1)) (fun b hb => by
                      rcases hb with h | h | h
                      · exact .inl (.inl h)
                      · exact .inl (.inr (.inl h))
                      · exact .inl (.inr (.inr (.inl h))))
                    simpa using h2
                  · exact PB.out.2.2.1.trans' (set3_only T _ nq _ _ _) (fun b hb hlt => by simp only [List.mem_singleton] at hb; omega)
                  · intro b hb
                    have h1 := P1.out.2.2 b hb
                    have h2 := HI.out.2.2.2.2.1.size
                    omega
                case measure => simp [intOf]; omega
              · have hacc' := hacc
                have hac : ¬ (1 ≤ x ∧ x ≤ 4294967296) := hacc
                have hnx := HI.out.1
                rw [if_neg hac] at hnx
                have HNX := Lib.hid hnx
                have hre : x = 0 ∨ 4294967296 < x := by omega
                have HAC := Lib.hid hre
                clear hnx hacc hac hre
                have C2 := Lib.hid (fun (q : Value) Wd => sampler_refuse (w := Wd) q x y HAC.out)
                go_wp2_with fail
                refine (radd_refuse keep m p A.length c x y _ HAC.out (by omega)).mono ?_
                rintro e v1 ⟨rfl, p1⟩
                have hs1 := HI.out.2.2.1.only p1 (by simp)
                have P1 := Lib.hid (And.intro hs1 p1)
                have hv1s := p1.size
                clear hs1 p1
                unfold refV
                go_wp2_with fail
                obtain ⟨v2, hv2⟩ : ∃ v2, v2 = v1.alloc (.cells #[.int .i64 keep, .int .u64 m, .slice p A.length c] 66) := ⟨_, rfl⟩
                have p12 : Only [] v1 v2 := by rw [hv2]; exact (Only.refl _ _).alloc _
                have pv := P1.out.2.trans p12
                have hs2 := P1.out.1.only p12 (by simp)
                have bv : v2.heap[v1.heap.size]? = some (.cells #[.int .i64 keep, .int .u64 m, .slice p A.length c] 66 (0, 0)) := by rw [hv2]; exact heap_alloc_new _ _
                have bT3 := pv.blk HI.out.2.1 (by simp)
                have sv := HI.out.2.2.2.1.shift pv
                have PB := Lib.hid (And.intro sv (And.intro hs2 (And.intro (HI.out.2.2.2.2.1.trans pv) bT3)))
                have e0 : v2.cell? ⟨v1.heap.size, 0, none⟩ = some (.int .i64 keep) := by rw [cell_of_blk bv]; rfl
                have e1 : v2.cell? ⟨v1.heap.size, 1, none⟩ = some (.int .u64 m) := by rw [cell_of_blk bv]; rfl
                have e2 : v2.cell? ⟨v1.heap.size, 2, none⟩ = some (.slice p A.length c) := by rw [cell_of_blk bv]; rfl
                have g0 : v2.cell? ⟨T, 0, none⟩ = some (.int .i64 keep) := by rw [cell_of_blk bT3]; rfl
                have g1 : v2.cell? ⟨T, 1, none⟩ = some (.int .u64 m) := by rw [cell_of_blk bT3]; rfl
                have g2 : v2.cell? ⟨T, 2, none⟩ = some (.slice p A.length c) := by rw [cell_of_blk bT3]; rfl
                have gf : ∀ i, v2.frozen? ⟨T, i, none⟩ = false := fun i => frozen_of_blk bT3
                have gl : T < v2.heap.size := lt_of_blk bT3
                have tA : ((A.length : Int) != (A.length : Int)) = false := by simp
                have HL := Lib.hid (fun n => smpf_len (sv.shift ((Only.refl [] v2).drewN n)))
                have hne : ¬ v1.heap.size = T := by omega
                have hne2 : ¬ T = v1.heap.size := by omega
                rw [← hv2]
                clear sv hs2 bv bT3 pv p12 hv2
                refine (C2.out _ _).mono ?_
                rintro e v3 ⟨rfl, hv3⟩
                obtain rfl : v2 = v3 := hv3.symm
                go_wp2_with fail
                go_quiet ((go_at_call 14; exact Calls.quiet_of_same (HL.out _)))
                go_wp2_with fail
                go_roundw
                case rel =>
                  refine ⟨i + 1, p, A.length, c, by go_num, by omega, ?_, ?_, ?_, ?_, ?_⟩
                  · exact set3_blk PB.out.2.2.2 nq _ _ _
                  · rw [HNX.out]
                    refine PB.out.2.1.only (set3_only T _ nq _ _ _) (fun b hb => ?_)
                    have := HI.out.2.2.2.2.2 b hb
                    simp only [List.mem_singleton]
                    exact this.2
                  · rw [HNX.out]
                    exact PB.out.1.apart (set3_only T v2 nq (.int .i64 keep) (.int .u64 m) (.slice p A.length c)) (fun b hb => by
                      simp only [List.mem_singleton] at hb
                      exact .inr (.inl hb))
                  · exact PB.out.2.2.1.trans' (set3_only T _ nq _ _ _) (fun b hb hlt => by simp only [List.mem_singleton] at hb; omega)
                  · exact HI.out.2.2.2.2.2
                case measure => simp [intOf]; omega
            · have hWc' := hWc
              have hxe : (W : Int) % 20 = (x : Int) := by
                have h1 : x = W % 20 := by rw [hx]; unfold offW; rw [if_neg (by assumption)]
                omega
              have tW : decide ((i : Int) < (Wz.length : Int)) = false := decide_eq_false (by omega)
              have tW' : decide (i < Wz.length) = false := decide_eq_false (by assumption)
              clear hx hy oT hRc hRc' hWc hWc'
              by_cases hacc : 1 ≤ x ∧ x ≤ 4294967296
              · have hacc' := hacc
                have hac : 1 ≤ x ∧ x ≤ 4294967296 := hacc
                have hnx := HI.out.1
                rw [if_pos hac] at hnx
                have HNX := Lib.hid hnx
                have HAC := Lib.hid hac
                clear hnx hacc hac
                go_wp2_with fail
                refine (radd_walk keep m (.slice p A.length c) (refL m A) x y _ HI.out.2.2.1 (by rw [refL_len]; omega) HAC.out.1 HAC.out.2 hm hyb).mono ?_
                rintro e v1 ⟨sv1, rfl, hs1, p1, hn1⟩
                obtain ⟨q1, c1, hq1⟩ := hs1.form
                have hlq : ((refL m A ++ [(x, drawn m y)]).map encR).length = A.length + 1 := by simp [refL_len]
                rw [hlq] at hq1
                subst hq1
                rw [refL_len]
                have hrL : refL m (A ++ [(x, y)]) = refL m A ++ [(x, drawn m y)] := by simp [refL]
                have hs1' : SliceIs v1 93 2 ((refL m (A ++ [(x, y)])).map encR) (.slice q1 (A.length + 1) c1) := by rw [hrL]; exact hs1
                have P1 := Lib.hid (And.intro hs1' (And.intro p1 hn1))
                clear hs1 hs1' p1 hn1 hlq hrL
                unfold refV
                go_wp2_with fail
                obtain ⟨v2, hv2⟩ : ∃ v2, v2 = v1.alloc (.cells #[.int .i64 keep, .int .u64 m, .slice q1 (A.length + 1) c1] 66) := ⟨_, rfl⟩
                have p12 : Only [] v1 v2 := by rw [hv2]; exact (Only.refl _ _).alloc _
                have pv := P1.out.2.1.trans p12
                have hs2 := P1.out.1.only p12 (by simp)
                have bv : v2.heap[v1.heap.size]? = some (.cells #[.int .i64 keep, .int .u64 m, .slice q1 (A.length + 1) c1] 66 (0, 0)) := by rw [hv2]; exact heap_alloc_new _ _
                have hv1s := P1.out.2.1.size
                have hq1l := P1.out.1.lt
                have sv : SmpF (fun b => b < w.heap.size ∨ b = T ∨ b ∈ blockOf (.slice q1 (A.length + 1) c1) ∨ b = v1.heap.size) v2 w.heap.size keep m A.length (heldS keep m A) := (HI.out.2.2.2.1.more (fun b hb => by
                  rcases hb with h | h | h | h
                  · exact .inl (.inl h)
                  · exact .inl (.inr (.inl h))
                  · exact .inr (P1.out.2.2 b h)
                  · right; omega)).shift pv
                have hvl := lt_of_blk bv
                have hadd := smpf_add sv (fun b hb => by
                  rcases hb with h | h | h | h
                  · have := HI.out.2.2.2.2.1.size; omega
                  · omega
                  · have := hq1l b h; omega
                  · omega) x y HAC.out.1 HAC.out.2 hyb (by omega)
                have PA := Lib.hid (And.intro hadd (And.intro pv (And.intro bv (And.intro hs2 hq1l))))
                clear hadd sv pv bv hs2 hq1l p12
                rw [← hv2]
                clear hv2
                refine PA.out.1.mono ?_
                rintro e v3 ⟨rfl, s3, T3, hT3, p3⟩
                obtain ⟨_, pv, bv, hs2, hq1l⟩ := PA.out
                have hTF : T ∉ T3 := fun hm3 => hT3 T hm3 (.inr (.inl rfl))
                have hVF : v1.heap.size ∉ T3 := fun hm3 => hT3 _ hm3 (.inr (.inr (.inr rfl)))
                have bT3 := p3.blk (pv.blk HI.out.2.1 (by simp)) hTF
                have bV3 := p3.blk bv hVF
                have hs3 := hs2.only p3 (fun b hb hm3 => hT3 b hm3 (.inr (.inr (.inl hb))))
                have hhs : heldS keep m (A ++ [(x, y)]) = addS keep (heldS keep m A) ⟨x, drawn m y, A.length⟩ := heldS_app keep m A (x, y)
                rw [← hhs] at s3
                have p03 : Only [] w v3 := ⟨p3.os.trans (HI.out.2.2.2.2.1.trans pv).os, p3.tape.trans (HI.out.2.2.2.2.1.trans pv).tape, p3.output.trans (HI.out.2.2.2.2.1.trans pv).output, Nat.le_trans (HI.out.2.2.2.2.1.trans pv).size p3.size, fun q hq _ => (p3.block q (Nat.lt_of_lt_of_le hq (HI.out.2.2.2.2.1.trans pv).size) (fun hm3 => hT3 q hm3 (.inl hq))).trans ((HI.out.2.2.2.2.1.trans pv).block q hq (by simp))⟩
                have PB := Lib.hid (And.intro s3 (And.intro hs3 (And.intro p03 bT3)))
                have e0 : v3.cell? ⟨v1.heap.size, 0, none⟩ = some (.int .i64 keep) := by rw [cell_of_blk bV3]; rfl
                have e1 : v3.cell? ⟨v1.heap.size, 1, none⟩ = some (.int .u64 m) := by rw [cell_of_blk bV3]; rfl
                have e2 : v3.cell? ⟨v1.heap.size, 2, none⟩ = some (.slice q1 (A.length + 1) c1) := by rw [cell_of_blk bV3]; rfl
                have g0 : v3.cell? ⟨T, 0, none⟩ = some (.int .i64 keep) := by rw [cell_of_blk bT3]; rfl
                have g1 : v3.cell? ⟨T, 1, none⟩ = some (.int .u64 m) := by rw [cell_of_blk bT3]; rfl
                have g2 : v3.cell? ⟨T, 2, none⟩ = some (.slice p A.length c) := by rw [cell_of_blk bT3]; rfl
                have gf : ∀ i, v3.frozen? ⟨T, i, none⟩ = false := fun i => frozen_of_blk bT3
                have gl : T < v3.heap.size := lt_of_blk bT3
                have tA : ((A.length : Int) != (A.length : Int)) = false := by simp
                have tB : (((A.length : Int) + 1) != ((A.length : Int) + 1)) = false := by simp
                have HL := Lib.hid (fun n => smpf_len (s3.shift ((Only.refl [] v3).drewN n)))
                have hne : ¬ v1.heap.size = T := by omega
                have hne2 : ¬ T = v1.heap.size := by omega
                clear s3 hs3 p03 bT3 bV3 hhs pv bv hs2 hq1l p3 hT3 hTF hVF
                go_wp2_with fail
                go_quiet ((go_at_call 14; exact Calls.quiet_of_same (HL.out _)))
                go_wp2_with fail
                go_roundw
                case rel =>
                  refine ⟨i + 1, q1, A.length + 1, c1, by go_num, by omega, ?_, ?_, ?_, ?_, ?_⟩
                  · exact set3_blk PB.out.2.2.2 nq _ _ _
                  · rw [HNX.out]
                    refine PB.out.2.1.only (set3_only T _ nq _ _ _) (fun b hb => ?_)
                    have := P1.out.2.2 b hb
                    simp only [List.mem_singleton]
                    omega
                  · rw [HNX.out]
                    have h1 := PB.out.1.apart (set3_only T v3 nq (.int .i64 keep) (.int .u64 m) (.slice q1 (A.length + 1) c1)) (fun b hb => by
                      simp only [List.mem_singleton] at hb
                      exact .inr (.inl hb))
                    have h2 := h1.more (G := fun b => b < w.heap.size ∨ b = T ∨ b ∈ blockOf (.slice q1 (A.length + 1) c1)) (fun b hb => by
                      rcases hb with h | h | h
                      · exact .inl (.inl h)
                      · exact .inl (.inr (.inl h))
                      · exact .inl (.inr (.inr (.inl h))))
                    simpa using h2
                  · exact PB.out.2.2.1.trans' (set3_only T _ nq _ _ _) (fun b hb hlt => by simp only [List.mem_singleton] at hb; omega)
                  · intro b hb
                    have h1 := P1.out.2.2 b hb
                    have h2 := HI.out.2.2.2.2.1.size
                    omega
                case measure => simp [intOf]; omega
              · have hacc' := hacc
                have hac : ¬ (1 ≤ x ∧ x ≤ 4294967296) := hacc
                have hnx := HI.out.1
                rw [if_neg hac] at hnx
                have HNX := Lib.hid hnx
                have hre : x = 0 ∨ 4294967296 < x := by omega
                have HAC := Lib.hid hre
                clear hnx hacc hac hre
                have C2 := Lib.hid (fun (q : Value) Wd => sampler_refuse (w := Wd) q x y HAC.out)
                go_wp2_with fail
                refine (radd_refuse keep m p A.length c x y _ HAC.out (by omega)).mono ?_
                rintro e v1 ⟨rfl, p1⟩
                have hs1 := HI.out.2.2.1.only p1 (by simp)
                have P1 := Lib.hid (And.intro hs1 p1)
                have hv1s := p1.size
                clear hs1 p1
                unfold refV
                go_wp2_with fail
                obtain ⟨v2, hv2⟩ : ∃ v2, v2 = v1.alloc (.cells #[.int .i64 keep, .int .u64 m, .slice p A.length c] 66) := ⟨_, rfl⟩
                have p12 : Only [] v1 v2 := by rw [hv2]; exact (Only.refl _ _).alloc _
                have pv := P1.out.2.trans p12
                have hs2 := P1.out.1.only p12 (by simp)
                have bv : v2.heap[v1.heap.size]? = some (.cells #[.int .i64 keep, .int .u64 m, .slice p A.length c] 66 (0, 0)) := by rw [hv2]; exact heap_alloc_new _ _
                have bT3 := pv.blk HI.out.2.1 (by simp)
                have sv := HI.out.2.2.2.1.shift pv
                have PB := Lib.hid (And.intro sv (And.intro hs2 (And.intro (HI.out.2.2.2.2.1.trans pv) bT3)))
                have e0 : v2.cell? ⟨v1.heap.size, 0, none⟩ = some (.int .i64 keep) := by rw [cell_of_blk bv]; rfl
                have e1 : v2.cell? ⟨v1.heap.size, 1, none⟩ = some (.int .u64 m) := by rw [cell_of_blk bv]; rfl
                have e2 : v2.cell? ⟨v1.heap.size, 2, none⟩ = some (.slice p A.length c) := by rw [cell_of_blk bv]; rfl
                have g0 : v2.cell? ⟨T, 0, none⟩ = some (.int .i64 keep) := by rw [cell_of_blk bT3]; rfl
                have g1 : v2.cell? ⟨T, 1, none⟩ = some (.int .u64 m) := by rw [cell_of_blk bT3]; rfl
                have g2 : v2.cell? ⟨T, 2, none⟩ = some (.slice p A.length c) := by rw [cell_of_blk bT3]; rfl
                have gf : ∀ i, v2.frozen? ⟨T, i, none⟩ = false := fun i => frozen_of_blk bT3
                have gl : T < v2.heap.size := lt_of_blk bT3
                have tA : ((A.length : Int) != (A.length : Int)) = false := by simp
                have HL := Lib.hid (fun n => smpf_len (sv.shift ((Only.refl [] v2).drewN n)))
                have hne : ¬ v1.heap.size = T := by omega
                have hne2 : ¬ T = v1.heap.size := by omega
                rw [← hv2]
                clear sv hs2 bv bT3 pv p12 hv2
                refine (C2.out _ _).mono ?_
                rintro e v3 ⟨rfl, hv3⟩
                obtain rfl : v2 = v3 := hv3.symm
                go_wp2_with fail
                go_quiet ((go_at_call 14; exact Calls.quiet_of_same (HL.out _)))
                go_wp2_with fail
                go_roundw
                case rel =>
                  refine ⟨i + 1, p, A.length, c, by go_num, by omega, ?_, ?_, ?_, ?_, ?_⟩
                  · exact set3_blk PB.out.2.2.2 nq _ _ _
                  · rw [HNX.out]
                    refine PB.out.2.1.only (set3_only T _ nq _ _ _) (fun b hb => ?_)
                    have := HI.out.2.2.2.2.2 b hb
                    simp only [List.mem_singleton]
                    exact this.2
                  · rw [HNX.out]
                    exact PB.out.1.apart (set3_only T v2 nq (.int .i64 keep) (.int .u64 m) (.slice p A.length c)) (fun b hb => by
                      simp only [List.mem_singleton] at hb
                      exact .inr (.inl hb))
                  · exact PB.out.2.2.1.trans' (set3_only T _ nq _ _ _) (fun b hb hlt => by simp only [List.mem_singleton] at hb; omega)
                  · exact HI.out.2.2.2.2.2
                case measure => simp [intOf]; omega
        · have hie : i = D'.length := by omega
          subst hie
          have hok : ∀ x ∈ refL m A, x.1 < big ∧ x.2 < big := by
            intro x hx
            obtain ⟨z, hz, rfl⟩ := List.mem_map.1 hx
            rw [hA] at hz
            have hz2 := accTo_ok (Wz := Wz) HR.out.small HK.out.1.small D'.length (Nat.le_refl _) z hz
            exact ⟨by unfold big; simp only; omega, drawn_big hm hz2.2⟩
          have hcC := rclose_walk keep m p c (refL m A) wr (by rw [refL_len]; exact hsl) (by rw [refL_len]; omega) hok (by omega) (by unfold big; exact hm)
          rw [refL_len] at hcC
          have HC := Lib.hid hcC
          have HI := Lib.hid (And.intro bT (And.intro sT (And.intro oT hbp)))
          clear hok hcC bT sT oT hbp hsl hA
          go_wp2_with fail
          refine HC.out.mono ?_
          rintro e v1 ⟨rv, rfl, hx, p1, hnx⟩
          obtain ⟨X, hX⟩ : ∃ X, X = refTo keep m (refL m A) A.length := ⟨_, rfl⟩
          rw [← hX] at hx
          have hXl : X.length ≤ 40 := by rw [hX]; have := refTo_len keep m (refL m A) A.length; omega
          obtain ⟨q1, c1, hq1⟩ := hx.form
          rw [List.length_map] at hq1
          subst hq1
          have P1 := Lib.hid (And.intro hx (And.intro p1 (And.intro hnx hX)))
          have hv1s := p1.size
          clear hx p1 hnx hX
          unfold refV
          go_wp2_with fail
          obtain ⟨v2, hv2⟩ : ∃ v2, v2 = v1.alloc (.cells #[.int .i64 keep, .int .u64 m, .slice none 0 0] 66) := ⟨_, rfl⟩
          have p12 : Only [] v1 v2 := by rw [hv2]; exact (Only.refl _ _).alloc _
          have pv := P1.out.2.1.trans p12
          have hx2 := P1.out.1.only p12 (by simp)
          have bv : v2.heap[v1.heap.size]? = some (.cells #[.int .i64 keep, .int .u64 m, .slice none 0 0] 66 (0, 0)) := by rw [hv2]; exact heap_alloc_new _ _
          have sv : SmpF (fun b => b < w.heap.size ∨ b = T ∨ b ∈ blockOf (.slice q1 X.length c1) ∨ b = v1.heap.size) v2 w.heap.size keep m A.length (heldS keep m A) := (HI.out.2.1.more (fun b hb => by
            rcases hb with h | h | h | h
            · exact .inl (.inl h)
            · exact .inl (.inr (.inl h))
            · exact .inr (P1.out.2.2.1 b h)
            · right; omega)).shift pv
          have hcl := smpf_close sv
          have PA := Lib.hid (And.intro hcl (And.intro pv (And.intro bv hx2)))
          clear hcl sv pv bv hx2 p12
          rw [← hv2]
          clear hv2
          refine PA.out.1.mono ?_
          rintro e v3 ⟨M, rv2, rfl, hM, hp, hpw, s4, ⟨T3, hT3, p3⟩, _⟩
          obtain ⟨_, pv, bv, hx2⟩ := PA.out
          have hMX : M = X := by rw [P1.out.2.2.2]; exact keeps_same hk1 hp hpw
          subst hMX
          have hTF : T ∉ T3 := fun hm3 => hT3 T hm3 (.inr (.inl rfl))
          have hVF : v1.heap.size ∉ T3 := fun hm3 => hT3 _ hm3 (.inr (.inr (.inr rfl)))
          have bT3 := p3.blk (pv.blk HI.out.1 (by simp)) hTF
          have bV3 := p3.blk bv hVF
          have hx3 := hx2.only p3 (fun b hb hm3 => hT3 b hm3 (.inr (.inr (.inl hb))))
          have p03 : Only [] w v3 := ⟨p3.os.trans (HI.out.2.2.1.trans pv).os, p3.tape.trans (HI.out.2.2.1.trans pv).tape, p3.output.trans (HI.out.2.2.1.trans pv).output, Nat.le_trans (HI.out.2.2.1.trans pv).size p3.size, fun q hq _ => (p3.block q (Nat.lt_of_lt_of_le hq (HI.out.2.2.1.trans pv).size) (fun hm3 => hT3 q hm3 (.inl hq))).trans ((HI.out.2.2.1.trans pv).block q hq (by simp))⟩
          obtain ⟨q2, c2, hq2⟩ := hM.form
          rw [List.length_map] at hq2
          subst hq2
          have hS := same_walk M q2 q1 c2 c1 hM hx3 (by omega)
          have HS := Lib.hid hS
          have PB := Lib.hid (And.intro s4 (And.intro p03 (And.intro bT3 bV3)))
          clear hS hM hp hpw hx3 p3 hT3 hTF hVF pv bv hx2 s4 p03 bT3 bV3
          go_wp2_with fail
          refine HS.out.mono ?_
          rintro e v4 ⟨rfl, p4⟩
          have bT4 := p4.blk PB.out.2.2.1 (by simp)
          have bV4 := p4.blk PB.out.2.2.2 (by simp)
          have e0 : v4.cell? ⟨v1.heap.size, 0, none⟩ = some (.int .i64 keep) := by rw [cell_of_blk bV4]; rfl
          have e1 : v4.cell? ⟨v1.heap.size, 1, none⟩ = some (.int .u64 m) := by rw [cell_of_blk bV4]; rfl
          have e2 : v4.cell? ⟨v1.heap.size, 2, none⟩ = some (.slice none 0 0) := by rw [cell_of_blk bV4]; rfl
          have g0 : v4.cell? ⟨T, 0, none⟩ = some (.int .i64 keep) := by rw [cell_of_blk bT4]; rfl
          have g1 : v4.cell? ⟨T, 1, none⟩ = some (.int .u64 m) := by rw [cell_of_blk bT4]; rfl
          have g2 : v4.cell? ⟨T, 2, none⟩ = some (.slice p A.length c) := by rw [cell_of_blk bT4]; rfl
          have gf : ∀ i, v4.frozen? ⟨T, i, none⟩ = false := fun i => frozen_of_blk bT4
          have gl : T < v4.heap.size := lt_of_blk bT4
          have PC := Lib.hid (And.intro (PB.out.1.shift p4) (And.intro (PB.out.2.1.trans p4) bT4))
          have hr1 : (0 : Int) ≤ (D'.length : Int) / 2 := by omega
          have hr2 : (D'.length : Int) / 2 ≤ (c' : Int) := by omega
          have hr3 : D'.length / 2 ≤ c' := by omega
          obtain ⟨A2, hsl2, hin2⟩ := HK.out.1.take (D'.length / 2) c' (by omega)
          have HT := Lib.hid (And.intro hsl2 hin2)
          clear p4 bT4 bV4 hsl2 hin2
          go_wp2_with fail
          go_roundw
          case rel =>
            refine ⟨k + 1, A2, D'.take (D'.length / 2), c', by go_num, HT.out.1, by omega, by rw [List.length_take]; omega, hc', by rw [List.length_take]; omega, HT.out.2, set3_blk0 PC.out.2.2 _ _ _, ?_, PC.out.2.1.trans' (set3_only0 T _ _ _ _) (fun b hb hlt => by simp only [List.mem_singleton] at hb; omega)⟩
            have h1 := PC.out.1.apart (set3_only0 T v4 (.int .i64 keep) (.int .u64 m) (.slice none 0 0)) (fun b hb => by
              simp only [List.mem_singleton] at hb
              exact .inr (.inl hb))
            exact h1.more (fun b hb => by
              rcases hb with h | h
              · exact .inl (.inl h)
              · exact .inl (.inr (.inl h)))
          case measure => simp [intOf]; omega
    · have hke : k = 2 := by omega
      subst hke
      have HE := Lib.hid oT
      clear bT sT oT hDI
      go_wp2_with fail
      go_ret
      exact ⟨rfl, HE.out⟩

end Go.Proofs.Ytbboklmmnnedjaa
