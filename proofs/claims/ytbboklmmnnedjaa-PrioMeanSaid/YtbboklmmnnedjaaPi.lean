/- math/bits.Div64, walked. -/
import Derived.Test.YtbboklmmnnedjaaPh
import Derived.Test.YtbboklmmnnedjaaPn
set_option linter.unusedVariables false
set_option linter.unusedSimpArgs false
namespace Go.Proofs.Ytbboklmmnnedjaa
open Go.RowKit Go.Mk Go.Pr

theorem div_low {w : World} (lo y : Nat) (hy : 0 < y) (hy2 : y < 18446744073709551616) (hl : lo < 18446744073709551616) :
    Calls Try.prog 44 #[.int .u64 0, .int .u64 lo, .int .u64 y] w fun e w' => e = .returned (.tuple #[.int .u64 (lo / y : Nat), .int .u64 (lo % y : Nat)]) ∧ Only [] w w' := by
  have g1 : ((y : Int) == 0) = false := beq_eq_false_iff_ne.2 (by omega)
  have g2 : decide ((y : Int) ≤ 0) = false := decide_eq_false (by omega)
  have f1 : IntKind.u64.wrap ((lo : Int) / (y : Int)) = ((lo / y : Nat) : Int) := by
    rw [← Int.natCast_ediv]; exact wrap_nat (Nat.lt_of_le_of_lt (Nat.div_le_self _ _) hl)
  go_enter Try.func44, Try.ntmps44
  go_wp2_with fail
  go_region
  all_goals go_wp2_with fail
  all_goals (go_ret2; exact ⟨by simp, (Only.refl _ _).drew⟩)

set_option maxRecDepth 100000 in
set_option maxHeartbeats 2000000 in
theorem div_wide {w : World} (hi lo y : Nat) (h0 : 0 < hi) (hy : hi < y) (hy2 : y < 18446744073709551616) (hl : lo < 18446744073709551616) :
    Calls Try.prog 44 #[.int .u64 hi, .int .u64 lo, .int .u64 y] w fun e w' => e = .returned (.tuple #[.int .u64 ((hi * 18446744073709551616 + lo) / y : Nat), .int .u64 ((hi * 18446744073709551616 + lo) % y : Nat)]) ∧ Only [] w w' := by
  have g1 : ((y : Int) == 0) = false := beq_eq_false_iff_ne.2 (by omega)
  have g2 : decide ((y : Int) ≤ hi) = false := decide_eq_false (by omega)
  have g3 : ((hi : Int) == 0) = false := beq_eq_false_iff_ne.2 (by omega)
  obtain ⟨s, hs, hlz, hY1, hY2⟩ := clz_is (by omega) hy2
  obtain ⟨Y, hY⟩ : ∃ Y, Y = y * 2 ^ s := ⟨_, rfl⟩
  obtain ⟨H, hH⟩ : ∃ H, H = hi * 2 ^ s := ⟨_, rfl⟩
  obtain ⟨c, hc⟩ : ∃ c, c = 64 - s := ⟨_, rfl⟩
  obtain ⟨l1, hl1⟩ : ∃ l1, l1 = lo / 2 ^ c := ⟨_, rfl⟩
  obtain ⟨U, hU⟩ : ∃ U, U = H + l1 := ⟨_, rfl⟩
  obtain ⟨V, hV⟩ : ∃ V, V = lo * 2 ^ s % 18446744073709551616 := ⟨_, rfl⟩
  obtain ⟨y1, hy1⟩ : ∃ y1, y1 = Y / 4294967296 := ⟨_, rfl⟩
  obtain ⟨y0, hy0⟩ : ∃ y0, y0 = Y % 4294967296 := ⟨_, rfl⟩
  obtain ⟨v1, hv1⟩ : ∃ v1, v1 = V / 4294967296 := ⟨_, rfl⟩
  obtain ⟨v0, hv0⟩ : ∃ v0, v0 = V % 4294967296 := ⟨_, rfl⟩
  have hws := kn_words (hi := hi) (y := y) hs hl
  rw [← hH, ← hc, ← hl1, ← hU, ← hV] at hws
  have hl1s : l1 < 2 ^ s := by
    rw [hl1, Nat.div_lt_iff_lt_mul (Nat.two_pow_pos _), hc, ← Nat.pow_add, show s + (64 - s) = 64 by omega]
    omega
  have hHY : H + 2 ^ s ≤ Y := by rw [hH, hY, ← Nat.succ_mul]; exact Nat.mul_le_mul_right _ hy
  have hUY : U < Y := by omega
  rw [← hY] at hY1 hY2
  have f1 : IntKind.u64.wrap (s : Int) = s := wrap_nat (by omega)
  have f2 : min s 64 = s := by omega
  have f3 : IntKind.u64.wrap ((y : Int) * 2 ^ s) = (Y : Int) := by
    have := wrap_nat (n := y * 2 ^ s) (by omega)
    rw [hY]; simpa using this
  have f4 : (Y : Int) / 4294967296 = (y1 : Int) := by omega
  have f5 : bits .and .u64 (Y : Int) 4294967295 = (y0 : Int) := by rw [hy0]; exact and_mask hY2
  have f6 : IntKind.u64.wrap ((hi : Int) * 2 ^ s) = (H : Int) := by
    have := wrap_nat (n := hi * 2 ^ s) (by omega)
    rw [hH]; simpa using this
  have f7 : IntKind.u64.wrap (64 - (s : Int)) = (c : Int) := by
    have := wrap_nat (n := c) (by omega)
    rw [← this, hc]; congr 1; omega
  have f8 : min c 64 = c := by omega
  have f9 : (lo : Int) / 2 ^ c = (l1 : Int) := by rw [hl1]; simp
  have f10 : bits .or .u64 (H : Int) (l1 : Int) = (U : Int) := by rw [hU, hH]; exact or_words hs (by omega) hl1s
  have f11 : IntKind.u64.wrap ((lo : Int) * 2 ^ s) = (V : Int) := by
    have := wrap_mod (lo * 2 ^ s)
    rw [hV]; simpa using this
  have f12 : (V : Int) / 4294967296 = (v1 : Int) := by omega
  have f13 : bits .and .u64 (V : Int) 4294967295 = (v0 : Int) := by rw [hv0]; exact and_mask (by rw [hV]; omega)
  have hy1g : 2147483648 ≤ y1 := by omega
  have hy1l : y1 < 4294967296 := by omega
  have hy0l : y0 < 4294967296 := by omega
  have hv1l : v1 < 4294967296 := by omega
  have hv0l : v0 < 4294967296 := by omega
  have hYs : Y = y1 * B32 + y0 := by simp only [B32]; omega
  have hVs : V = v1 * B32 + v0 := by simp only [B32]; omega
  obtain ⟨qa, hqa⟩ : ∃ qa, qa = U / y1 := ⟨_, rfl⟩
  obtain ⟨ra, hra⟩ : ∃ ra, ra = U % y1 := ⟨_, rfl⟩
  have hqr : qa * y1 + ra = U := by rw [hqa, hra, Nat.mul_comm]; exact Nat.div_add_mod _ _
  have hral : ra < y1 := by rw [hra]; exact Nat.mod_lt _ (by omega)
  have hqat : qa ≤ B32 + 1 := by rw [hqa]; exact kn_top hy1g hy0l (by rw [← hYs]; exact hUY)
  have hqas : (U * B32 + v1) / Y ≤ qa := by rw [hqa, hYs]; exact kn_start (by omega) hv1l
  have f14 : (U : Int).tdiv (y1 : Int) = (qa : Int) := by rw [hqa]; simp [Int.natCast_ediv, Int.tdiv_eq_ediv]
  have f14' : (U : Int) / (y1 : Int) = (qa : Int) := by rw [hqa]; simp
  have f15 : IntKind.u64.wrap (qa : Int) = (qa : Int) := wrap_nat (by simp only [B32] at hqat; omega)
  have hqam : qa * y1 ≤ U := by omega
  have f16 : IntKind.u64.wrap ((qa : Int) * (y1 : Int)) = ((qa * y1 : Nat) : Int) := by
    have := wrap_nat (n := qa * y1) (by omega)
    simpa using this
  have f17 : IntKind.u64.wrap ((U : Int) - ((qa * y1 : Nat) : Int)) = (ra : Int) := by
    have := wrap_nat (n := ra) (by omega)
    rw [← this]; congr 1; omega
  have f17' : IntKind.u64.wrap ((U : Int) - (qa : Int) * (y1 : Int)) = (ra : Int) := by rw [← f17]; simp
  have g4 : ((y1 : Int) == 0) = false := beq_eq_false_iff_ne.2 (by omega)
  have g5 : ¬ y1 = 0 := by omega
  obtain ⟨qt, hqt⟩ : ∃ qt, qt = (U * B32 + v1) / Y := ⟨_, rfl⟩
  rw [← hqt] at hqas
  obtain ⟨R1, hR1⟩ : ∃ R1, R1 = (U * B32 + v1) % Y := ⟨_, rfl⟩
  obtain ⟨q2t, hq2t⟩ : ∃ q2t, q2t = (R1 * B32 + v0) / Y := ⟨_, rfl⟩
  obtain ⟨R0, hR0⟩ : ∃ R0, R0 = (R1 * B32 + v0) % Y := ⟨_, rfl⟩
  have hYp : 0 < Y := by omega
  have hR1Y : R1 < Y := by rw [hR1]; exact Nat.mod_lt _ hYp
  have hR0Y : R0 < Y := by rw [hR0]; exact Nat.mod_lt _ hYp
  have hqtl : qt < 4294967296 := st_lt hYs hUY hv1l hqt
  have hq2tl : q2t < 4294967296 := st_lt hYs hR1Y hv0l hq2t
  obtain ⟨hQ, hRem⟩ := kn_whole (Nat.two_pow_pos s) (by omega) hY (show (hi * 18446744073709551616 + lo) * 2 ^ s = (U * B32 + v1) * B32 + v0 by rw [hws, hVs]; simp only [B32]; omega) hqt hR1 hq2t hR0
  obtain ⟨W0, hW0⟩ : ∃ W0, W0 = U * 4294967296 % 18446744073709551616 := ⟨_, rfl⟩
  obtain ⟨W1, hW1⟩ : ∃ W1, W1 = (W0 + v1) % 18446744073709551616 := ⟨_, rfl⟩
  obtain ⟨W2, hW2⟩ : ∃ W2, W2 = qt * Y % 18446744073709551616 := ⟨_, rfl⟩
  obtain ⟨e0, e1, e2, e3⟩ := st_rest hqt hR1 (by omega) hW0 hW1 hW2
  obtain ⟨qb, hqb⟩ : ∃ qb, qb = R1 / y1 := ⟨_, rfl⟩
  obtain ⟨rb, hrb⟩ : ∃ rb, rb = R1 % y1 := ⟨_, rfl⟩
  obtain ⟨hqr2, hrbl, hqbt, hqbs⟩ := st_start hYs hR1Y hv0l hy1g hy0l hqb hrb
  rw [← hq2t] at hqbs
  obtain ⟨e4, e5, e6, e7, e8⟩ := st_quo (by omega) (by omega) hqb hrb
  have e8' : IntKind.u64.wrap ((R1 : Int) - ((qb * y1 : Nat) : Int)) = (rb : Int) := by rw [← e8]; simp
  obtain ⟨X0, hX0⟩ : ∃ X0, X0 = R1 * 4294967296 % 18446744073709551616 := ⟨_, rfl⟩
  obtain ⟨X1, hX1⟩ : ∃ X1, X1 = (X0 + v0) % 18446744073709551616 := ⟨_, rfl⟩
  obtain ⟨X2, hX2⟩ : ∃ X2, X2 = q2t * Y % 18446744073709551616 := ⟨_, rfl⟩
  obtain ⟨d0, d1, d2, d3⟩ := st_rest hq2t hR0 (by omega) hX0 hX1 hX2
  obtain ⟨Q, hQd⟩ : ∃ Q, Q = (hi * 18446744073709551616 + lo) / y := ⟨_, rfl⟩
  obtain ⟨Z, hZd⟩ : ∃ Z, Z = (hi * 18446744073709551616 + lo) % y := ⟨_, rfl⟩
  rw [← hQd] at hQ
  rw [← hZd] at hRem
  have d4 : IntKind.u64.wrap ((qt : Int) * 4294967296) = (qt : Int) * 4294967296 := by
    have := wrap_nat (n := qt * 4294967296) (by omega)
    simpa using this
  have d5 : IntKind.u64.wrap ((qt : Int) * 4294967296 + (q2t : Int)) = (Q : Int) := by
    have := wrap_nat (n := Q) (by rw [← hQ]; simp only [B32]; omega)
    rw [← this, ← hQ]; congr 1
  have d5' : (qt : Int) * 4294967296 + (q2t : Int) = (Q : Int) := by rw [← hQ]; simp only [B32]; omega
  have d7 : IntKind.u64.wrap (Q : Int) = (Q : Int) := wrap_nat (by rw [← hQ]; simp only [B32]; omega)
  have d6 : (R0 : Int) / 2 ^ s = (Z : Int) := by rw [← hRem]; simp
  rw [← hQd, ← hZd]
  have Hq := Lib.hid (And.intro hqt (And.intro hq2t (And.intro hYs (And.intro hqr hqr2))))
  have hqat2 : qa ≤ 4294967297 := hqat
  clear hqat
  have hqat := hqat2
  clear hqat2
  clear hqr hqr2 hqt hYs hVs hws hUY hY hH hc hl1 hU hV hy1 hy0 hv1 hv0 hl1s hHY hqa hra hqam hR1 hq2t hR0 hQ hRem hW0 hW1 hW2 hqb hrb hX0 hX1 hX2 hQd hZd hR1Y hR0Y
  have H5 := Lib.hid (And.intro hqat (And.intro hqbt (And.intro hqas (And.intro hqbs (And.intro hrbl (And.intro hqtl hq2tl))))))
  clear hqat hqbt hqas hqbs hrbl hqtl hq2tl
  have He := Lib.hid (And.intro e0 (And.intro e1 (And.intro e2 (And.intro e3 (And.intro e4 (And.intro e5 (And.intro e6 (And.intro e7 (And.intro e8 e8')))))))))
  have Hd := Lib.hid (And.intro d0 (And.intro d1 (And.intro d2 (And.intro d3 (And.intro d4 (And.intro d5 (And.intro d5' (And.intro d6 d7))))))))
  clear e0 e1 e2 e3 e4 e5 e6 e7 e8 e8' d0 d1 d2 d3 d4 d5 d5' d6 d7
  go_enter Try.func44, Try.ntmps44
  go_wp2_with fail
  refine (Try.bits_LeadingZeros64 y _ (by omega) (by omega)).mono ?_
  rintro e w1 ⟨rfl, rfl⟩
  rw [show ((y : Int)).toNat = y from rfl, hlz]
  go_wp2_with fail
  go_loopw [15, 16] (fun qv rv wr => ∃ q r : Nat, qv = .int .u64 q ∧ rv = .int .u64 r ∧ q * y1 + r = U ∧ r < 4294967296 ∧ qt ≤ q ∧ q ≤ 4294967297 ∧ wr = w1) (fun qv _ _ => (intOf qv).toNat)
  case atStart => exact ⟨qa, ra, rfl, rfl, Hq.out.2.2.2.1, by have := H5.out.2.2.2.2.1; omega, H5.out.2.2.1, H5.out.1, rfl⟩
  case round =>
    obtain ⟨qa, ra, rfl, rfl, hqra, hra, hqqa, hqa1, hwea⟩ := hrel
    subst hwea
    by_cases hba : 4294967296 ≤ qa
    · have ka1 : decide ((4294967296 : Int) ≤ qa) = true := decide_eq_true (by omega)
      have ka1' : (4294967296 : Int) ≤ qa := by omega
      have hgta : qt ≤ qa - 1 := by have := H5.out.2.2.2.2.2.1; have := H5.out.2.2.2.2.2.2; omega
      obtain ⟨qa', hqa'⟩ : ∃ qa', qa' + 1 = qa := ⟨qa - 1, by omega⟩
      have kqa : (qa : Int) - 1 = (qa' : Int) := by omega
      by_cases hra2 : 4294967296 ≤ ra + y1
      · have ka2 : (4294967296 : Int) ≤ (ra : Int) + y1 := by omega
        have hqea : qa' = qt := st_break hqra hqa' hra2 hqa1 hy0l Hq.out.2.2.1 hYp Hq.out.1 (by omega)
        rw [hqea] at kqa
        clear hqea hqa' hqra
        obtain ⟨e0, e1, e2, e3, e4, e5, e6, e7, e8, e8'⟩ := He.out
        go_wp2_with fail
        clear He e0 e1 e2 e3 e4 e5 e6 e7 e8 e8'
        obtain ⟨wr0, hwr0⟩ : ∃ wr0, wr0 = wr := ⟨_, rfl⟩
        rw [← hwr0]
        go_loopw [18, 16] (fun qv rv wr => ∃ q r : Nat, qv = .int .u64 q ∧ rv = .int .u64 r ∧ q * y1 + r = R1 ∧ r < 4294967296 ∧ q2t ≤ q ∧ q ≤ 4294967297 ∧ wr = wr0) (fun qv _ _ => (intOf qv).toNat)
        case atStart => exact ⟨qb, rb, rfl, rfl, Hq.out.2.2.2.2, by have := H5.out.2.2.2.2.1; omega, H5.out.2.2.2.1, H5.out.2.1, rfl⟩
        case round =>
          obtain ⟨qb, rb, rfl, rfl, hqrb, hrb, hqqb, hqb1, hweb⟩ := hrel
          subst hweb
          by_cases hbb : 4294967296 ≤ qb
          · have kb1 : decide ((4294967296 : Int) ≤ qb) = true := decide_eq_true (by omega)
            have kb1' : (4294967296 : Int) ≤ qb := by omega
            have hgtb : q2t ≤ qb - 1 := by have := H5.out.2.2.2.2.2.1; have := H5.out.2.2.2.2.2.2; omega
            obtain ⟨qb', hqb'⟩ : ∃ qb', qb' + 1 = qb := ⟨qb - 1, by omega⟩
            have kqb : (qb : Int) - 1 = (qb' : Int) := by omega
            by_cases hrb2 : 4294967296 ≤ rb + y1
            · have kb2 : (4294967296 : Int) ≤ (rb : Int) + y1 := by omega
              have hqeb : qb' = q2t := st_break hqrb hqb' hrb2 hqb1 hy0l Hq.out.2.2.1 hYp Hq.out.2.1 (by omega)
              rw [hqeb] at kqb
              clear hqeb hqb' hqrb
              obtain ⟨d0, d1, d2, d3, d4, d5, d5', d6, d7⟩ := Hd.out
              go_wp2_with fail
              try go_region
              all_goals go_wp2_with fail
              all_goals (go_ret2; exact ⟨by simp [d7], by first | exact Only.refl _ _ | exact (Only.refl _ _).drew⟩)
            · have kb2 : ¬ (4294967296 : Int) ≤ (rb : Int) + y1 := by omega
              have hnb := st_next hqrb hqb'
              have Hnb := Lib.hid (And.intro hnb hqb')
              clear hnb hqb' hqrb
              go_wp2_with fail
              go_roundw
              case rel => exact ⟨qb', rb + y1, rfl, by simp, Hnb.out.1, by omega, by have := Hnb.out.2; omega, by have := Hnb.out.2; omega, by first | exact hwr0.symm | rfl | trivial⟩
              case measure => have := Hnb.out.2; simp [intOf]; omega
          · have kb1 : decide ((4294967296 : Int) ≤ qb) = false := decide_eq_false (by omega)
            have kb1' : ¬ (4294967296 : Int) ≤ qb := by omega
            obtain ⟨Mb, hMb⟩ : ∃ Mb, Mb = qb * y0 := ⟨_, rfl⟩
            obtain ⟨Tb, hTb⟩ : ∃ Tb, Tb = 4294967296 * rb + v0 := ⟨_, rfl⟩
            have hMlb : Mb < 18446744073709551616 := by
              rw [hMb]
              have : qb * y0 ≤ 4294967295 * 4294967295 := Nat.mul_le_mul (by omega) (by omega)
              omega
            have mb1 : IntKind.u64.wrap ((qb : Int) * (y0 : Int)) = (Mb : Int) := by
              have := wrap_nat hMlb
              rw [← this, hMb]; simp
            have mb2 : IntKind.u64.wrap (4294967296 * (rb : Int)) = 4294967296 * (rb : Int) := by
              have := wrap_nat (n := 4294967296 * rb) (by omega)
              simpa using this
            have mb3 : IntKind.u64.wrap (4294967296 * (rb : Int) + (v0 : Int)) = (Tb : Int) := by
              have := wrap_nat (n := Tb) (by omega)
              rw [← this]; congr 1; omega
            by_cases hmb : Tb < Mb
            · have mb4 : (Tb : Int) < Mb := by omega
              have hgtb : q2t ≤ qb - 1 := st_more hqrb hTb hMb hmb Hq.out.2.2.1 Hq.out.2.1
              have hqpb : 1 ≤ qb := by
                rcases Nat.eq_zero_or_pos qb with hz | hz
                · subst hz; simp at hMb; omega
                · exact hz
              clear hMb hTb
              obtain ⟨qb', hqb'⟩ : ∃ qb', qb' + 1 = qb := ⟨qb - 1, by omega⟩
              have kqb : (qb : Int) - 1 = (qb' : Int) := by omega
              by_cases hrb2 : 4294967296 ≤ rb + y1
              · have kb2 : (4294967296 : Int) ≤ (rb : Int) + y1 := by omega
                have hqeb : qb' = q2t := st_break hqrb hqb' hrb2 hqb1 hy0l Hq.out.2.2.1 hYp Hq.out.2.1 (by omega)
                rw [hqeb] at kqb
                clear hqeb hqb' hqrb
                obtain ⟨d0, d1, d2, d3, d4, d5, d5', d6, d7⟩ := Hd.out
                go_wp2_with fail
                try go_region
                all_goals go_wp2_with fail
                all_goals (go_ret2; exact ⟨by simp [d7], by first | exact Only.refl _ _ | exact (Only.refl _ _).drew⟩)
              · have kb2 : ¬ (4294967296 : Int) ≤ (rb : Int) + y1 := by omega
                have hnb := st_next hqrb hqb'
                have Hnb := Lib.hid (And.intro hnb hqb')
                clear hnb hqb' hqrb
                go_wp2_with fail
                go_roundw
                case rel => exact ⟨qb', rb + y1, rfl, by simp, Hnb.out.1, by omega, by have := Hnb.out.2; omega, by have := Hnb.out.2; omega, by first | exact hwr0.symm | rfl | trivial⟩
                case measure => have := Hnb.out.2; simp [intOf]; omega
            · have mb4 : ¬ (Tb : Int) < Mb := by omega
              have hqeb : qb = q2t := st_done hqrb hTb hMb hmb Hq.out.2.2.1 hYp Hq.out.2.1 hqqb
              clear hMb hTb hqrb
              have hqEb : (qb : Int) = (q2t : Int) := by omega
              subst hqeb
              obtain ⟨d0, d1, d2, d3, d4, d5, d5', d6, d7⟩ := Hd.out
              go_wp2_with fail
              try go_region
              all_goals go_wp2_with fail
              all_goals (go_ret2; exact ⟨by simp [d7], by first | exact Only.refl _ _ | exact (Only.refl _ _).drew⟩)
      · have ka2 : ¬ (4294967296 : Int) ≤ (ra : Int) + y1 := by omega
        have hna := st_next hqra hqa'
        have Hna := Lib.hid (And.intro hna hqa')
        clear hna hqa' hqra
        go_wp2_with fail
        go_roundw
        case rel => exact ⟨qa', ra + y1, rfl, by simp, Hna.out.1, by omega, by have := Hna.out.2; omega, by have := Hna.out.2; omega, by first | exact hwr0.symm | rfl | trivial⟩
        case measure => have := Hna.out.2; simp [intOf]; omega
    · have ka1 : decide ((4294967296 : Int) ≤ qa) = false := decide_eq_false (by omega)
      have ka1' : ¬ (4294967296 : Int) ≤ qa := by omega
      obtain ⟨Ma, hMa⟩ : ∃ Ma, Ma = qa * y0 := ⟨_, rfl⟩
      obtain ⟨Ta, hTa⟩ : ∃ Ta, Ta = 4294967296 * ra + v1 := ⟨_, rfl⟩
      have hMla : Ma < 18446744073709551616 := by
        rw [hMa]
        have : qa * y0 ≤ 4294967295 * 4294967295 := Nat.mul_le_mul (by omega) (by omega)
        omega
      have ma1 : IntKind.u64.wrap ((qa : Int) * (y0 : Int)) = (Ma : Int) := by
        have := wrap_nat hMla
        rw [← this, hMa]; simp
      have ma2 : IntKind.u64.wrap (4294967296 * (ra : Int)) = 4294967296 * (ra : Int) := by
        have := wrap_nat (n := 4294967296 * ra) (by omega)
        simpa using this
      have ma3 : IntKind.u64.wrap (4294967296 * (ra : Int) + (v1 : Int)) = (Ta : Int) := by
        have := wrap_nat (n := Ta) (by omega)
        rw [← this]; congr 1; omega
      by_cases hma : Ta < Ma
      · have ma4 : (Ta : Int) < Ma := by omega
        have hgta : qt ≤ qa - 1 := st_more hqra hTa hMa hma Hq.out.2.2.1 Hq.out.1
        have hqpa : 1 ≤ qa := by
          rcases Nat.eq_zero_or_pos qa with hz | hz
          · subst hz; simp at hMa; omega
          · exact hz
        clear hMa hTa
        obtain ⟨qa', hqa'⟩ : ∃ qa', qa' + 1 = qa := ⟨qa - 1, by omega⟩
        have kqa : (qa : Int) - 1 = (qa' : Int) := by omega
        by_cases hra2 : 4294967296 ≤ ra + y1
        · have ka2 : (4294967296 : Int) ≤ (ra : Int) + y1 := by omega
          have hqea : qa' = qt := st_break hqra hqa' hra2 hqa1 hy0l Hq.out.2.2.1 hYp Hq.out.1 (by omega)
          rw [hqea] at kqa
          clear hqea hqa' hqra
          obtain ⟨e0, e1, e2, e3, e4, e5, e6, e7, e8, e8'⟩ := He.out
          go_wp2_with fail
          clear He e0 e1 e2 e3 e4 e5 e6 e7 e8 e8'
          obtain ⟨wr0, hwr0⟩ : ∃ wr0, wr0 = wr := ⟨_, rfl⟩
          rw [← hwr0]
          go_loopw [18, 16] (fun qv rv wr => ∃ q r : Nat, qv = .int .u64 q ∧ rv = .int .u64 r ∧ q * y1 + r = R1 ∧ r < 4294967296 ∧ q2t ≤ q ∧ q ≤ 4294967297 ∧ wr = wr0) (fun qv _ _ => (intOf qv).toNat)
          case atStart => exact ⟨qb, rb, rfl, rfl, Hq.out.2.2.2.2, by have := H5.out.2.2.2.2.1; omega, H5.out.2.2.2.1, H5.out.2.1, rfl⟩
          case round =>
            obtain ⟨qb, rb, rfl, rfl, hqrb, hrb, hqqb, hqb1, hweb⟩ := hrel
            subst hweb
            by_cases hbb : 4294967296 ≤ qb
            · have kb1 : decide ((4294967296 : Int) ≤ qb) = true := decide_eq_true (by omega)
              have kb1' : (4294967296 : Int) ≤ qb := by omega
              have hgtb : q2t ≤ qb - 1 := by have := H5.out.2.2.2.2.2.1; have := H5.out.2.2.2.2.2.2; omega
              obtain ⟨qb', hqb'⟩ : ∃ qb', qb' + 1 = qb := ⟨qb - 1, by omega⟩
              have kqb : (qb : Int) - 1 = (qb' : Int) := by omega
              by_cases hrb2 : 4294967296 ≤ rb + y1
              · have kb2 : (4294967296 : Int) ≤ (rb : Int) + y1 := by omega
                have hqeb : qb' = q2t := st_break hqrb hqb' hrb2 hqb1 hy0l Hq.out.2.2.1 hYp Hq.out.2.1 (by omega)
                rw [hqeb] at kqb
                clear hqeb hqb' hqrb
                obtain ⟨d0, d1, d2, d3, d4, d5, d5', d6, d7⟩ := Hd.out
                go_wp2_with fail
                try go_region
                all_goals go_wp2_with fail
                all_goals (go_ret2; exact ⟨by simp [d7], by first | exact Only.refl _ _ | exact (Only.refl _ _).drew⟩)
              · have kb2 : ¬ (4294967296 : Int) ≤ (rb : Int) + y1 := by omega
                have hnb := st_next hqrb hqb'
                have Hnb := Lib.hid (And.intro hnb hqb')
                clear hnb hqb' hqrb
                go_wp2_with fail
                go_roundw
                case rel => exact ⟨qb', rb + y1, rfl, by simp, Hnb.out.1, by omega, by have := Hnb.out.2; omega, by have := Hnb.out.2; omega, by first | exact hwr0.symm | rfl | trivial⟩
                case measure => have := Hnb.out.2; simp [intOf]; omega
            · have kb1 : decide ((4294967296 : Int) ≤ qb) = false := decide_eq_false (by omega)
              have kb1' : ¬ (4294967296 : Int) ≤ qb := by omega
              obtain ⟨Mb, hMb⟩ : ∃ Mb, Mb = qb * y0 := ⟨_, rfl⟩
              obtain ⟨Tb, hTb⟩ : ∃ Tb, Tb = 4294967296 * rb + v0 := ⟨_, rfl⟩
              have hMlb : Mb < 18446744073709551616 := by
                rw [hMb]
                have : qb * y0 ≤ 4294967295 * 4294967295 := Nat.mul_le_mul (by omega) (by omega)
                omega
              have mb1 : IntKind.u64.wrap ((qb : Int) * (y0 : Int)) = (Mb : Int) := by
                have := wrap_nat hMlb
                rw [← this, hMb]; simp
              have mb2 : IntKind.u64.wrap (4294967296 * (rb : Int)) = 4294967296 * (rb : Int) := by
                have := wrap_nat (n := 4294967296 * rb) (by omega)
                simpa using this
              have mb3 : IntKind.u64.wrap (4294967296 * (rb : Int) + (v0 : Int)) = (Tb : Int) := by
                have := wrap_nat (n := Tb) (by omega)
                rw [← this]; congr 1; omega
              by_cases hmb : Tb < Mb
              · have mb4 : (Tb : Int) < Mb := by omega
                have hgtb : q2t ≤ qb - 1 := st_more hqrb hTb hMb hmb Hq.out.2.2.1 Hq.out.2.1
                have hqpb : 1 ≤ qb := by
                  rcases Nat.eq_zero_or_pos qb with hz | hz
                  · subst hz; simp at hMb; omega
                  · exact hz
                clear hMb hTb
                obtain ⟨qb', hqb'⟩ : ∃ qb', qb' + 1 = qb := ⟨qb - 1, by omega⟩
                have kqb : (qb : Int) - 1 = (qb' : Int) := by omega
                by_cases hrb2 : 4294967296 ≤ rb + y1
                · have kb2 : (4294967296 : Int) ≤ (rb : Int) + y1 := by omega
                  have hqeb : qb' = q2t := st_break hqrb hqb' hrb2 hqb1 hy0l Hq.out.2.2.1 hYp Hq.out.2.1 (by omega)
                  rw [hqeb] at kqb
                  clear hqeb hqb' hqrb
                  obtain ⟨d0, d1, d2, d3, d4, d5, d5', d6, d7⟩ := Hd.out
                  go_wp2_with fail
                  try go_region
                  all_goals go_wp2_with fail
                  all_goals (go_ret2; exact ⟨by simp [d7], by first | exact Only.refl _ _ | exact (Only.refl _ _).drew⟩)
                · have kb2 : ¬ (4294967296 : Int) ≤ (rb : Int) + y1 := by omega
                  have hnb := st_next hqrb hqb'
                  have Hnb := Lib.hid (And.intro hnb hqb')
                  clear hnb hqb' hqrb
                  go_wp2_with fail
                  go_roundw
                  case rel => exact ⟨qb', rb + y1, rfl, by simp, Hnb.out.1, by omega, by have := Hnb.out.2; omega, by have := Hnb.out.2; omega, by first | exact hwr0.symm | rfl | trivial⟩
                  case measure => have := Hnb.out.2; simp [intOf]; omega
              · have mb4 : ¬ (Tb : Int) < Mb := by omega
                have hqeb : qb = q2t := st_done hqrb hTb hMb hmb Hq.out.2.2.1 hYp Hq.out.2.1 hqqb
                clear hMb hTb hqrb
                have hqEb : (qb : Int) = (q2t : Int) := by omega
                subst hqeb
                obtain ⟨d0, d1, d2, d3, d4, d5, d5', d6, d7⟩ := Hd.out
                go_wp2_with fail
                try go_region
                all_goals go_wp2_with fail
                all_goals (go_ret2; exact ⟨by simp [d7], by first | exact Only.refl _ _ | exact (Only.refl _ _).drew⟩)
        · have ka2 : ¬ (4294967296 : Int) ≤ (ra : Int) + y1 := by omega
          have hna := st_next hqra hqa'
          have Hna := Lib.hid (And.intro hna hqa')
          clear hna hqa' hqra
          go_wp2_with fail
          go_roundw
          case rel => exact ⟨qa', ra + y1, rfl, by simp, Hna.out.1, by omega, by have := Hna.out.2; omega, by have := Hna.out.2; omega, by first | exact hwr0.symm | rfl | trivial⟩
          case measure => have := Hna.out.2; simp [intOf]; omega
      · have ma4 : ¬ (Ta : Int) < Ma := by omega
        have hqea : qa = qt := st_done hqra hTa hMa hma Hq.out.2.2.1 hYp Hq.out.1 hqqa
        clear hMa hTa hqra
        have hqEa : (qa : Int) = (qt : Int) := by omega
        subst hqea
        obtain ⟨e0, e1, e2, e3, e4, e5, e6, e7, e8, e8'⟩ := He.out
        go_wp2_with fail
        clear He e0 e1 e2 e3 e4 e5 e6 e7 e8 e8'
        obtain ⟨wr0, hwr0⟩ : ∃ wr0, wr0 = wr := ⟨_, rfl⟩
        rw [← hwr0]
        go_loopw [18, 16] (fun qv rv wr => ∃ q r : Nat, qv = .int .u64 q ∧ rv = .int .u64 r ∧ q * y1 + r = R1 ∧ r < 4294967296 ∧ q2t ≤ q ∧ q ≤ 4294967297 ∧ wr = wr0) (fun qv _ _ => (intOf qv).toNat)
        case atStart => exact ⟨qb, rb, rfl, rfl, Hq.out.2.2.2.2, by have := H5.out.2.2.2.2.1; omega, H5.out.2.2.2.1, H5.out.2.1, rfl⟩
        case round =>
          obtain ⟨qb, rb, rfl, rfl, hqrb, hrb, hqqb, hqb1, hweb⟩ := hrel
          subst hweb
          by_cases hbb : 4294967296 ≤ qb
          · have kb1 : decide ((4294967296 : Int) ≤ qb) = true := decide_eq_true (by omega)
            have kb1' : (4294967296 : Int) ≤ qb := by omega
            have hgtb : q2t ≤ qb - 1 := by have := H5.out.2.2.2.2.2.1; have := H5.out.2.2.2.2.2.2; omega
            obtain ⟨qb', hqb'⟩ : ∃ qb', qb' + 1 = qb := ⟨qb - 1, by omega⟩
            have kqb : (qb : Int) - 1 = (qb' : Int) := by omega
            by_cases hrb2 : 4294967296 ≤ rb + y1
            · have kb2 : (4294967296 : Int) ≤ (rb : Int) + y1 := by omega
              have hqeb : qb' = q2t := st_break hqrb hqb' hrb2 hqb1 hy0l Hq.out.2.2.1 hYp Hq.out.2.1 (by omega)
              rw [hqeb] at kqb
              clear hqeb hqb' hqrb
              obtain ⟨d0, d1, d2, d3, d4, d5, d5', d6, d7⟩ := Hd.out
              go_wp2_with fail
              try go_region
              all_goals go_wp2_with fail
              all_goals (go_ret2; exact ⟨by simp [d7], by first | exact Only.refl _ _ | exact (Only.refl _ _).drew⟩)
            · have kb2 : ¬ (4294967296 : Int) ≤ (rb : Int) + y1 := by omega
              have hnb := st_next hqrb hqb'
              have Hnb := Lib.hid (And.intro hnb hqb')
              clear hnb hqb' hqrb
              go_wp2_with fail
              go_roundw
              case rel => exact ⟨qb', rb + y1, rfl, by simp, Hnb.out.1, by omega, by have := Hnb.out.2; omega, by have := Hnb.out.2; omega, by first | exact hwr0.symm | rfl | trivial⟩
              case measure => have := Hnb.out.2; simp [intOf]; omega
          · have kb1 : decide ((4294967296 : Int) ≤ qb) = false := decide_eq_false (by omega)
            have kb1' : ¬ (4294967296 : Int) ≤ qb := by omega
            obtain ⟨Mb, hMb⟩ : ∃ Mb, Mb = qb * y0 := ⟨_, rfl⟩
            obtain ⟨Tb, hTb⟩ : ∃ Tb, Tb = 4294967296 * rb + v0 := ⟨_, rfl⟩
            have hMlb : Mb < 18446744073709551616 := by
              rw [hMb]
              have : qb * y0 ≤ 4294967295 * 4294967295 := Nat.mul_le_mul (by omega) (by omega)
              omega
            have mb1 : IntKind.u64.wrap ((qb : Int) * (y0 : Int)) = (Mb : Int) := by
              have := wrap_nat hMlb
              rw [← this, hMb]; simp
            have mb2 : IntKind.u64.wrap (4294967296 * (rb : Int)) = 4294967296 * (rb : Int) := by
              have := wrap_nat (n := 4294967296 * rb) (by omega)
              simpa using this
            have mb3 : IntKind.u64.wrap (4294967296 * (rb : Int) + (v0 : Int)) = (Tb : Int) := by
              have := wrap_nat (n := Tb) (by omega)
              rw [← this]; congr 1; omega
            by_cases hmb : Tb < Mb
            · have mb4 : (Tb : Int) < Mb := by omega
              have hgtb : q2t ≤ qb - 1 := st_more hqrb hTb hMb hmb Hq.out.2.2.1 Hq.out.2.1
              have hqpb : 1 ≤ qb := by
                rcases Nat.eq_zero_or_pos qb with hz | hz
                · subst hz; simp at hMb; omega
                · exact hz
              clear hMb hTb
              obtain ⟨qb', hqb'⟩ : ∃ qb', qb' + 1 = qb := ⟨qb - 1, by omega⟩
              have kqb : (qb : Int) - 1 = (qb' : Int) := by omega
              by_cases hrb2 : 4294967296 ≤ rb + y1
              · have kb2 : (4294967296 : Int) ≤ (rb : Int) + y1 := by omega
                have hqeb : qb' = q2t := st_break hqrb hqb' hrb2 hqb1 hy0l Hq.out.2.2.1 hYp Hq.out.2.1 (by omega)
                rw [hqeb] at kqb
                clear hqeb hqb' hqrb
                obtain ⟨d0, d1, d2, d3, d4, d5, d5', d6, d7⟩ := Hd.out
                go_wp2_with fail
                try go_region
                all_goals go_wp2_with fail
                all_goals (go_ret2; exact ⟨by simp [d7], by first | exact Only.refl _ _ | exact (Only.refl _ _).drew⟩)
              · have kb2 : ¬ (4294967296 : Int) ≤ (rb : Int) + y1 := by omega
                have hnb := st_next hqrb hqb'
                have Hnb := Lib.hid (And.intro hnb hqb')
                clear hnb hqb' hqrb
                go_wp2_with fail
                go_roundw
                case rel => exact ⟨qb', rb + y1, rfl, by simp, Hnb.out.1, by omega, by have := Hnb.out.2; omega, by have := Hnb.out.2; omega, by first | exact hwr0.symm | rfl | trivial⟩
                case measure => have := Hnb.out.2; simp [intOf]; omega
            · have mb4 : ¬ (Tb : Int) < Mb := by omega
              have hqeb : qb = q2t := st_done hqrb hTb hMb hmb Hq.out.2.2.1 hYp Hq.out.2.1 hqqb
              clear hMb hTb hqrb
              have hqEb : (qb : Int) = (q2t : Int) := by omega
              subst hqeb
              obtain ⟨d0, d1, d2, d3, d4, d5, d5', d6, d7⟩ := Hd.out
              go_wp2_with fail
              try go_region
              all_goals go_wp2_with fail
              all_goals (go_ret2; exact ⟨by simp [d7], by first | exact Only.refl _ _ | exact (Only.refl _ _).drew⟩)

end Go.Proofs.Ytbboklmmnnedjaa
