/- The law PrioMean, walked. -/
import Derived.Test.YtbboklmmnnedjaaVe
import Derived.Test.YtbboklmmnnedjaaMi
import Derived.Test.YtbboklmmnnedjaaQg
set_option linter.unusedVariables false
set_option linter.unusedSimpArgs false
namespace Go.Proofs.Ytbboklmmnnedjaa
open Go.RowKit Go.Mk Go.Pr

def wts (Z : List Nat) : List Nat := Z.map (fun z => z % 30 + 1)
theorem wts_at {Z : List Nat} {i z : Nat} (h : Z[i]? = some z) : (wts Z).getD i 0 = z % 30 + 1 := by
  simp [wts, List.getD, h]
theorem wts_le (Z : List Nat) (j : Nat) : (wts Z).getD j 0 ≤ 30 := by
  unfold wts
  simp only [List.getD, List.getElem?_map]
  cases Z[j]? with
  | none => simp
  | some z => simp; omega
theorem allW_le (Z : List Nat) (i : Nat) : allW i (wts Z) ≤ i * 30 := by
  unfold allW
  have h := sumTo_le (n := i) (f := fun j => (wts Z).getD j 0) (g := fun _ => 30) (fun j _ => wts_le Z j)
  rw [sumTo_const] at h
  exact h
theorem pow_le5 {m i : Nat} (hm : m ≤ 5) (hi : i ≤ 4) : m ^ i ≤ 625 := by
  refine Nat.le_trans (Nat.pow_le_pow_left hm i) ?_
  exact Nat.le_trans (Nat.pow_le_pow_right (by omega) hi) (by decide)

set_option maxRecDepth 100000 in
set_option maxHeartbeats 3000000 in
theorem law_mean (a : Option Addr) (cap k8 d8 : Nat) (Z : List Nat) (w : World) (hZ : NumsIn .u8 256 w a Z) (hZl : Z.length ≤ maxLen) (hk8 : k8 < 256) (hd8 : d8 < 256) :
    Calls Try.prog 8 #[.slice a Z.length cap, .int .u8 k8, .int .u8 d8] w fun e w' => e = .returned (.bool true) ∧ Only [] w w' := by
  have hK := Lib.hid known_walk
  unfold maxLen at hZl
  obtain ⟨n, hn⟩ : ∃ n, n = min Z.length 4 := ⟨_, rfl⟩
  obtain ⟨m, hm⟩ : ∃ m, m = 1 + d8 % 5 := ⟨_, rfl⟩
  obtain ⟨k, hk⟩ : ∃ k, k = 1 + k8 % 3 := ⟨_, rfl⟩
  have en : min (Z.length : Int) 4 = (n : Int) := by omega
  have em : 1 + (d8 : Int) % 5 = (m : Int) := by omega
  have ek : 1 + (k8 : Int) % 3 = (k : Int) := by omega
  have hn4 : n ≤ 4 := by omega
  have hnZ : n ≤ Z.length := by omega
  have hm1 : 1 ≤ m := by omega
  have hm5 : m ≤ 5 := by omega
  have hk1 : 1 ≤ k := by omega
  have hk3 : k ≤ 3 := by omega
  have HZ := Lib.hid hZ
  clear hZ hn hm hk
  by_cases hn0 : n = 0
  · have t1 : ((n : Int) == 0) = true := by rw [beq_iff_eq]; omega
    go_enter Try.func8, Try.ntmps8
    go_wp2_with fail
    refine (hK.out _).mono ?_
    rintro _ w2 ⟨rfl, o1⟩
    go_wp2_with fail
    go_ret
    exact ⟨rfl, o1⟩
  · have t1 : ((n : Int) == 0) = false := by rw [beq_eq_false_iff_ne]; omega
    have hn1 : 1 ≤ n := by omega
    clear hn0
    go_enter Try.func8, Try.ntmps8
    go_wp2_with fail
    refine (hK.out _).mono ?_
    rintro _ w2 ⟨rfl, o2⟩
    have O2 := Lib.hid o2
    clear o2
    go_wp2_with fail
    go_loop [10, 11] (fun av iv => ∃ i S : Nat, iv = .int .i64 i ∧ i ≤ n ∧ av = .int .u64 S ∧ S = allW i (wts Z)) (fun _ iv => n - (intOf iv).toNat)
    case atStart => exact ⟨0, 0, rfl, Nat.zero_le _, rfl, rfl⟩
    case round =>
      obtain ⟨i, S, rfl, hi, rfl, hS⟩ := hrel
      have hSl := allW_le Z i
      rw [← hS] at hSl
      by_cases hil : i < n
      · have t2 : decide ((i : Int) < (n : Int)) = true := decide_eq_true (by omega)
        have t2' : decide (i < n) = true := decide_eq_true hil
        obtain ⟨b, off, z, rfl, hb, hget, hz, k0⟩ := HZ.out.at O2.out (show i < Z.length by omega)
        obtain ⟨S', hS'⟩ : ∃ S', S' = allW (i + 1) (wts Z) := ⟨_, rfl⟩
        have hnx : S' = S + (z % 30 + 1) := by rw [hS', hS, ← wts_at hget]; rfl
        have eS : (S : Int) + ((z : Int) % 30 + 1) = (S' : Int) := by omega
        have hiZ : (i : Int) < (Z.length : Int) := by omega
        have HS := Lib.hid (And.intro hS' hnx)
        clear hS hS' hnx hget
        go_wp2_with fail
        go_round
        case rel => exact ⟨i + 1, S', by go_num, by omega, rfl, HS.out.1⟩
        case measure => simp [intOf]; omega
      · have hie : i = n := by omega
        subst hie
        have t2 : decide ((i : Int) < (i : Int)) = false := decide_eq_false (by omega)
        have HL := Lib.hid (fun Wd => lcm_walk m Wd hm1 hm5)
        obtain ⟨den, hden⟩ : ∃ den, den = lcmT m := ⟨_, rfl⟩
        rw [← hden] at HL
        have hdn := lcmT_small hm5
        rw [← hden] at hdn
        have Hden : Hid (∀ j, 0 < j → j ≤ m → j ∣ den) := Lib.hid (by rw [hden]; exact lcmT_dvd hm5)
        have HS := Lib.hid hS
        clear hS hden hil
        go_wp2_with fail
        refine (HL.out _).mono ?_
        rintro _ w3 ⟨rfl, hw3⟩
        obtain rfl : w2 = w3 := hw3.symm
        go_wp2_with fail
        go_loop [13, 14] (fun vv iv => ∃ j V : Nat, iv = .int .i64 j ∧ j ≤ i ∧ vv = .int .u64 V ∧ V = m ^ j) (fun _ iv => i - (intOf iv).toNat)
        case atStart => exact ⟨0, 1, rfl, Nat.zero_le _, rfl, rfl⟩
        case round =>
          obtain ⟨j, V, rfl, hj, rfl, hV⟩ := hrel
          have hVl := pow_le5 hm5 (show j ≤ 4 by omega)
          rw [← hV] at hVl
          by_cases hjl : j < i
          · have t3 : decide ((j : Int) < (i : Int)) = true := decide_eq_true (by omega)
            have t3' : decide (j < i) = true := decide_eq_true hjl
            obtain ⟨V', hV'⟩ : ∃ V', V' = m ^ (j + 1) := ⟨_, rfl⟩
            have hnx : V' = V * m := by rw [hV', hV, Nat.pow_succ]
            have hV'l := pow_le5 hm5 (show j + 1 ≤ 4 by omega)
            rw [← hV'] at hV'l
            have eV : (V : Int) * (m : Int) = (V' : Int) := by rw [hnx]; simp
            have eV2 : IntKind.u64.wrap ((V : Int) * (m : Int)) = (V' : Int) := by rw [eV, wraps_u64 _ (by omega) (by omega)]
            have HV := Lib.hid hV'
            clear hV hV' hnx
            go_wp2_with fail
            go_round
            case rel => exact ⟨j + 1, V', by go_num, by omega, by first | rfl | (rw [wraps_u64 _ (by omega) (by omega)]), HV.out⟩
            case measure => simp [intOf]; omega
          · have hje : j = i := by omega
            subst hje
            have t3 : decide ((j : Int) < (j : Int)) = false := decide_eq_false (by omega)
            have HV := Lib.hid hV
            clear hV hjl
            go_wp2_with fail
            have hVl2 : V ≤ 625 := hVl
            have hj1 : 1 ≤ j := hn1
            go_loopw [15, 16] (fun sv vv wr => ∃ v R : Nat, vv = .int .u64 v ∧ v ≤ V ∧ sv = .int .u64 R ∧ R = sumTo v (costV k m den j (wts Z)) ∧ Only [] w2 wr) (fun _ vv _ => V - (intOf vv).toNat)
            case atStart => exact ⟨0, 0, rfl, Nat.zero_le _, rfl, rfl, Only.refl _ _⟩
            case round =>
              obtain ⟨v, R, rfl, hv, rfl, hR, ow⟩ := hrel
              have hRl : R ≤ v * (j * 10800) := by rw [hR]; exact sum_costV_le hm1 hm5 Hden.out (wts_le Z) hdn.2 v
              have hRl2 : R ≤ 27000000 := by
                have h1 : v * (j * 10800) ≤ 625 * (4 * 10800) := Nat.mul_le_mul (by omega) (Nat.mul_le_mul_right _ (by omega))
                omega
              clear hRl
              by_cases hvl : v < V
              · have t4 : decide ((v : Int) < (V : Int)) = true := decide_eq_true (by omega)
                have t4' : decide (v < V) = true := decide_eq_true hvl
                obtain ⟨w4, hw4⟩ : ∃ w4, w4 = wr := ⟨_, rfl⟩
                subst hw4
                have HN := Lib.hid (smp_new (w := w4) k m hk1 (by omega) (by omega))
                have HR := Lib.hid (And.intro hR ow)
                clear hR ow
                go_wp2_with fail
                refine HN.out.mono ?_
                rintro e w5 ⟨rfl, s5⟩
                have HS5 := Lib.hid s5
                clear s5
                go_wp2_with fail
                go_loopw [18, 19] (fun xv iv wr => ∃ i X : Nat, iv = .int .i64 i ∧ i ≤ j ∧ xv = .int .u64 X ∧ X = v / m ^ i ∧ X ≤ 625 ∧ Smp w4 wr w4.heap.size k m i (heldS k m ((digL m j (wts Z) v).take i))) (fun _ iv _ => j - (intOf iv).toNat)
                case atStart => exact ⟨0, v, rfl, Nat.zero_le _, rfl, by simp, by omega, HS5.out⟩
                case round =>
                  obtain ⟨i, X, rfl, hi, rfl, hX, hXl, hs⟩ := hrel
                  by_cases hil : i < j
                  · have t5 : decide ((i : Int) < (j : Int)) = true := decide_eq_true (by omega)
                    have t5' : decide (i < j) = true := decide_eq_true hil
                    have o0 : Only [] w wr := ((O2.out.trans HR.out.2).trans' hs.only (fun x hx hl => by simp only [List.mem_singleton] at hx; have := (O2.out.trans HR.out.2).size; omega))
                    obtain ⟨b, off, z, rfl, hb, hget, hz, k0⟩ := HZ.out.at o0 (show i < Z.length by omega)
                    have hdg := digL_get (m := m) (Ws := wts Z) (v := v) hil
                    rw [wts_at hget, ← hX] at hdg
                    have hst := heldS_take (keep := k) (draws := m) hdg
                    obtain ⟨d, hd⟩ : ∃ d, d = X % m := ⟨_, rfl⟩
                    obtain ⟨W, hW⟩ : ∃ W, W = z % 30 + 1 := ⟨_, rfl⟩
                    obtain ⟨X', hX'⟩ : ∃ X', X' = X / m := ⟨_, rfl⟩
                    have hX2 : X' = v / m ^ (i + 1) := by rw [hX', hX, Nat.pow_succ, Nat.div_div_eq_div_mul]
                    have hdl : d < m := by rw [hd]; exact Nat.mod_lt _ hm1
                    have hX'l : X' ≤ X := by rw [hX']; exact Nat.div_le_self _ _
                    rw [← hd, ← hW] at hst
                    have cA := smp_add (hs.shift ((Only.refl [] wr).drew)) W d (by omega) (by omega) (by omega) (by omega)
                    have ed : (X : Int) % (m : Int) = (d : Int) := by rw [hd]; simp
                    have ed2 : (X : Int).tmod (m : Int) = (d : Int) := by rw [Int.tmod_eq_emod_of_nonneg (by omega)]; exact ed
                    have eX : (X : Int) / (m : Int) = (X' : Int) := by rw [hX']; simp
                    have eW : (z : Int) % 30 + 1 = (W : Int) := by omega
                    rw [← eW] at cA
                    have hiZ : (i : Int) < (Z.length : Int) := by omega
                    have km : ((m : Int) == 0) = false := by rw [beq_eq_false_iff_ne]; omega
                    have km0 : ¬ m = 0 := by omega
                    have cz : IntKind.u64.wrap ((z : Int) % 30) = (z : Int) % 30 := by rw [wrap_u64]; omega
                    have HA := Lib.hid (And.intro hst (And.intro cA (And.intro hX2 (by omega : X' ≤ 625))))
                    clear hst cA hget hs hdg hd hW hX' hX2 hX o0 eW
                    go_wp2_with fail
                    refine region_tail 11 (by kernel_rfl) (by kernel_rfl) ?_
                    simp only [List.take_succ_cons, List.take_zero, List.drop_succ_cons, List.drop_zero]
                    repeat still_step
                    refine wpStill_nil ?_
                    go_wp2_with fail
                    refine HA.out.2.1.mono ?_
                    rintro e w6 ⟨rfl, s6⟩
                    rw [← HA.out.1] at s6
                    have Hs6 := Lib.hid s6
                    clear s6
                    go_wp2_with fail
                    go_roundw
                    case rel => exact ⟨i + 1, X', by go_num, by omega, by first | rfl | (rw [wraps_u64 _ (by omega) (by omega)]), HA.out.2.2.1, HA.out.2.2.2, Hs6.out⟩
                    case measure => simp [intOf]; omega
                  · have hie : i = j := by omega
                    subst hie
                    have t5 : decide ((i : Int) < (i : Int)) = false := decide_eq_false (by omega)
                    rw [show (digL m i (wts Z) v).take i = digL m i (wts Z) v from List.take_of_length_le (by rw [digL_len]; omega)] at hs
                    have hcl := smp_close hs
                    have Hcl := Lib.hid (And.intro hcl hs.only)
                    clear hcl hs hX hil
                    go_wp2_with fail
                    refine Hcl.out.1.mono ?_
                    rintro e w6 ⟨M, rv, rfl, hM, hp, hpw, s6, o6, hrv⟩
                    obtain ⟨hMe, hMl⟩ := vec_close hm1 hk1 hp hpw
                    obtain ⟨q, cap3, hrvf⟩ := hM.form
                    rw [List.length_map] at hrvf
                    subst hrvf
                    have hMall : ∀ x ∈ M, KeptOk den i (wts Z) x := by rw [hMe]; exact kept_ok hm1 hm5 Hden.out (wts_le Z)
                    have hcost : listCost den M = costV k m den i (wts Z) v := by rw [hMe, listCost_ref]; rfl
                    have o06 : Only [] w2 w6 := HR.out.2.trans' o6 (fun x hx hl => by simp only [List.mem_singleton] at hx; have := HR.out.2.size; omega)
                    have hM4 : M.length ≤ 4 := by omega
                    have tl : ((M.length : Int) != min (k : Int) (i : Int)) = false := by
                      rw [bne_eq_false_iff_eq]; omega
                    have HM := Lib.hid (And.intro hM (And.intro hMall (And.intro hcost (And.intro o06 hMl))))
                    clear hM hp hpw s6 o6 hrv hMe hMl hMall hcost o06
                    go_wp2_with fail
                    go_loopw [15, 21] (fun sv qv wr => ∃ p R' : Nat, qv = .int .i64 p ∧ p ≤ M.length ∧ sv = .int .u64 R' ∧ R' = R + listCost den (M.take p) ∧ Only [] w6 wr) (fun _ qv _ => M.length - (intOf qv).toNat)
                    case atStart => exact ⟨0, R, rfl, Nat.zero_le _, rfl, by simp [listCost], Only.refl _ _⟩
                    case round =>
                      obtain ⟨p, R', rfl, hp, rfl, hR', ow⟩ := hrel
                      by_cases hpl : p < M.length
                      · have t6 : decide ((p : Int) < (M.length : Int)) = true := decide_eq_true (by omega)
                        have t6' : decide (p < M.length) = true := decide_eq_true hpl
                        obtain ⟨x, hx⟩ : ∃ x, M[p]? = some x := ⟨_, List.getElem?_eq_getElem hpl⟩
                        have hxo := HM.out.2.1 x (List.mem_of_getElem? hx)
                        have hbnd := listCost_le hdn.2 (M.take p) (fun y hy => HM.out.2.1 y (List.mem_of_mem_take hy))
                        rw [List.length_take] at hbnd
                        have hR'l : R' ≤ 28000000 := by
                          have h1 : min p M.length * 10800 ≤ 4 * 10800 := Nat.mul_le_mul_right _ (by omega)
                          omega
                        obtain ⟨g1, off1, rfl, hg1, k0, k1, k2⟩ := kept_at HM.out.1 ow (by simp) hx
                        have hxp := hxo.lt
                        obtain ⟨b, off, z, rfl, hb, hget, hz, kz⟩ := HZ.out.at ((O2.out.trans HM.out.2.2.2.1).trans ow) (show x.p < Z.length by omega)
                        obtain ⟨W, hW⟩ : ∃ W, W = z % 30 + 1 := ⟨_, rfl⟩
                        have hge := hxo.ge
                        rw [wts_at hget, ← hW] at hge
                        have hxd : x.d ≤ 60 := Nat.le_trans (Nat.le_of_dvd hdn.1 hxo.dvd) hdn.2
                        have hxd0 := hxo.pos
                        have hxn := hxo.top
                        obtain ⟨Y, hY⟩ : ∃ Y, Y = W * x.d := ⟨_, rfl⟩
                        rw [← hY] at hge
                        have hYl : Y ≤ 180 := by omega
                        obtain ⟨Q, hQ⟩ : ∃ Q, Q = den / x.d := ⟨_, rfl⟩
                        have hQl : Q ≤ 60 := by rw [hQ]; exact Nat.le_trans (Nat.div_le_self _ _) hdn.2
                        obtain ⟨C, hC⟩ : ∃ C, C = Q * x.n := ⟨_, rfl⟩
                        have hCl : C ≤ 60 * 180 := by rw [hC]; exact Nat.mul_le_mul hQl hxn
                        have hnx : R' + C = R + listCost den (M.take (p + 1)) := by
                          rw [listCost_take hx, hR', hC, hQ]; unfold costOf; omega
                        have hmod : den % x.d = 0 := Nat.mod_eq_zero_of_dvd hxo.dvd
                        have f1 : ((x.d : Int) == 0) = false := by rw [beq_eq_false_iff_ne]; omega
                        have f1' : ¬ x.d = 0 := by omega
                        have f2 : (den : Int) % (x.d : Int) = 0 := by
                          have : ((den % x.d : Nat) : Int) = 0 := by rw [hmod]; rfl
                          simpa using this
                        have f2' : (den : Int).tmod (x.d : Int) = 0 := by rw [Int.tmod_eq_emod_of_nonneg (by omega)]; exact f2
                        have f3 : decide ((x.p : Int) < 0) = false := decide_eq_false (by omega)
                        have f4 : decide ((i : Int) ≤ (x.p : Int)) = false := decide_eq_false (by omega)
                        have f4' : decide (i ≤ x.p) = false := decide_eq_false (by omega)
                        have eW : (z : Int) % 30 + 1 = (W : Int) := by omega
                        have cz : IntKind.u64.wrap ((z : Int) % 30) = (z : Int) % 30 := by rw [wrap_u64]; omega
                        have cz2 : (z : Int).tmod 30 = (z : Int) % 30 := Int.tmod_eq_emod_of_nonneg (by omega)
                        have cz3 : IntKind.u8.wrap ((z : Int) % 30) = (z : Int) % 30 := by simp [IntKind.wrap, IntKind.bits, IntKind.signed]; omega
                        have cW : IntKind.u64.wrap ((z : Int) % 30 + 1) = (W : Int) := by rw [eW, wrap_u64]; omega
                        have cY : IntKind.u64.wrap ((W : Int) * (x.d : Int)) = (Y : Int) := by
                          rw [← Int.natCast_mul, ← hY, wraps_u64 _ (by omega) (by omega)]
                        have eY : (W : Int) * (x.d : Int) = (Y : Int) := by rw [hY]; simp
                        have eY2 : ((z : Int) % 30 + 1) * (x.d : Int) = (Y : Int) := by rw [eW]; exact eY
                        have cY2 : IntKind.u64.wrap (((z : Int) % 30 + 1) * (x.d : Int)) = (Y : Int) := by rw [eW]; exact cY
                        have f5 : decide ((x.n : Int) < (Y : Int)) = false := decide_eq_false (by omega)
                        have f5' : decide (x.n < Y) = false := decide_eq_false (by omega)
                        have eQ : (den : Int) / (x.d : Int) = (Q : Int) := by rw [hQ]; simp
                        have eQ2 : (den : Int).tdiv (x.d : Int) = (Q : Int) := by rw [Int.tdiv_eq_ediv_of_nonneg (by omega)]; exact eQ
                        have cQ : IntKind.u64.wrap (Q : Int) = (Q : Int) := by rw [wrap_u64]; omega
                        have eC : (Q : Int) * (x.n : Int) = (C : Int) := by rw [hC]; simp
                        have cC : IntKind.u64.wrap ((Q : Int) * (x.n : Int)) = (C : Int) := by rw [eC, wrap_u64]; omega
                        have cR : IntKind.u64.wrap ((R' : Int) + (C : Int)) = ((R' + C : Nat) : Int) := by rw [wrap_u64]; omega
                        have hpI : (p : Int) < (M.length : Int) := by omega
                        have hxI : (x.p : Int) < (Z.length : Int) := by omega
                        have HX := Lib.hid (And.intro hnx ow)
                        clear hx hxo hbnd hget hW hge hY hQ hC hnx hmod hR' ow
                        go_wp2_with fail
                        go_quiet (fail)
                        go_wp2_with fail
                        go_quiet (fail)
                        go_wp2_with fail
                        go_roundw
                        case rel => exact ⟨p + 1, R' + C, by go_num, by omega, by go_num, HX.out.1, HX.out.2.drewN _⟩
                        case measure => simp [intOf]; omega
                      · have hpe : p = M.length := by omega
                        subst hpe
                        have t6 : decide ((M.length : Int) < (M.length : Int)) = false := decide_eq_false (by omega)
                        rw [List.take_length, HM.out.2.2.1] at hR'
                        have hnx : R' = sumTo (v + 1) (costV k m den i (wts Z)) := by rw [sumTo, ← HR.out.1]; exact hR'
                        have HX := Lib.hid (And.intro hnx (HM.out.2.2.2.1.trans ow))
                        clear hR' hnx ow hpl
                        go_wp2_with fail
                        go_roundw
                        case rel => exact ⟨v + 1, R', by go_num, by omega, rfl, HX.out.1, HX.out.2⟩
                        case measure => simp [intOf]; omega
              · have hve : v = V := by omega
                subst hve
                have t4 : decide ((v : Int) < (v : Int)) = false := decide_eq_false (by omega)
                have htot := total_le (k := k) (n := j) (Ws := wts Z) hm1 hm5 Hden.out (wts_le Z)
                have hRt : R = totalS k m den j (wts Z) := by rw [hR, HV.out]; rfl
                rw [← hRt, ← HS.out, ← HV.out] at htot
                have hSl2 : S ≤ 120 := by omega
                obtain ⟨P1, hP1⟩ : ∃ P1, P1 = S * v := ⟨_, rfl⟩
                have hP1l : P1 ≤ 120 * 625 := by rw [hP1]; exact Nat.mul_le_mul hSl2 hVl2
                obtain ⟨P2, hP2⟩ : ∃ P2, P2 = P1 * den := ⟨_, rfl⟩
                have hP2l : P2 ≤ 75000 * 60 := by rw [hP2]; exact Nat.mul_le_mul (by omega) hdn.2
                rw [← hP1, ← hP2] at htot
                have eP1 : (S : Int) * (v : Int) = (P1 : Int) := by rw [hP1]; simp
                have cP1 : IntKind.u64.wrap ((S : Int) * (v : Int)) = (P1 : Int) := by rw [eP1, wrap_u64]; omega
                have eP2 : (P1 : Int) * (den : Int) = (P2 : Int) := by rw [hP2]; simp
                have cP2 : IntKind.u64.wrap ((P1 : Int) * (den : Int)) = (P2 : Int) := by rw [eP2, wrap_u64]; omega
                have g1 : decide ((R : Int) ≤ (P2 : Int)) = true := decide_eq_true (by have := htot.1; omega)
                have g1' : decide (R ≤ P2) = true := decide_eq_true htot.1
                have HE := Lib.hid (O2.out.trans ow)
                by_cases hkj : k < j
                · have g2 : decide ((k : Int) < (j : Int)) = true := decide_eq_true (by omega)
                  have g2' : decide (k < j) = true := decide_eq_true hkj
                  clear htot hRt hR hP1 hP2 ow hvl hkj
                  go_wp2_with fail
                  go_ret
                  exact ⟨by first | rfl | simp, HE.out⟩
                · have g2 : decide ((k : Int) < (j : Int)) = false := decide_eq_false (by omega)
                  have g2' : decide (k < j) = false := decide_eq_false hkj
                  have g3 : ((R : Int) == (P2 : Int)) = true := by rw [beq_iff_eq, htot.2 (by omega)]
                  clear htot hRt hR hP1 hP2 ow hvl hkj
                  go_wp2_with fail
                  go_ret
                  exact ⟨by first | rfl | simp, HE.out⟩

theorem mean_top (a0 : Option Addr) (len0 cap0 : Nat) (z0 : List Int) (a1 a2 : Int) (w : World) (w0 : Go.Mk.InRow .u8 w a0 len0 cap0 z0) (w1 : (Lit.int .u8 a1).wf = true) (w2 : (Lit.int .u8 a2).wf = true) :
    Calls Try.prog 8 #[.slice a0 len0 cap0, .int .u8 a1, .int .u8 a2] w fun e w' => e = .returned (.bool true) ∧ Only [] w w' := by
  obtain ⟨Z, rfl, hm, hZ⟩ := w0.nums (top := 256) (fun n h => by have := bounds_u8 h; omega)
  obtain ⟨l1, h1⟩ := bounds_u8 w1
  obtain ⟨l2, h2⟩ := bounds_u8 w2
  obtain ⟨n1, rfl⟩ : ∃ n : Nat, a1 = n := ⟨a1.toNat, by omega⟩
  obtain ⟨n2, rfl⟩ : ∃ n : Nat, a2 = n := ⟨a2.toNat, by omega⟩
  exact law_mean a0 cap0 n1 n2 Z w hZ hm (by omega) (by omega)

end Go.Proofs.Ytbboklmmnnedjaa
