/- The law PrioAgain, walked. -/
import Derived.Test.YtbboklmmnnedjaaQf
set_option linter.unusedVariables false
set_option linter.unusedSimpArgs false
namespace Go.Proofs.Ytbboklmmnnedjaa
open Go.RowKit Go.Mk Go.Pr

theorem guard_kept (op : BinOp) (x y : Operand) (xs ys : Array Value) (w : World) : (eqGuard op 33 x y (.agg xs) (.agg ys)).run Try.prog w = .ok () w :=
  run_eqGuard_agg w op 33 x y xs ys (by kernel_rfl)
theorem equal_kept (a b c a' b' c' : Int) (w : World) : (Op.equalIn 10000 33 (.agg #[.int .i64 a, .int .u64 b, .int .u64 c]) (.agg #[.int .i64 a', .int .u64 b', .int .u64 c'])).run Try.prog w = .ok (a == a' && b == b' && c == c') w := by
  have hS : Try.prog.underlying 33 = some (.struct (Try.prog.fieldsOf 33)) := by kernel_rfl
  have hp : Try.prog.stoodInHeld 33 = false := by kernel_rfl
  rw [show (10000 : Nat) = 9999 + 1 from rfl, run_equalIn_agg w 9999 33 _ _ hS hp]
  simp only [Program.fieldsOf, Try.underlying33]
  go_simp
  by_cases h1 : a = a' <;> by_cases h2 : b = b' <;> by_cases h3 : c = c' <;> simp [h1, h2, h3]
theorem eql_kept (a b c a' b' c' : Int) (w : World) : (binOp .eql 33 (.agg #[.int .i64 a, .int .u64 b, .int .u64 c]) (.agg #[.int .i64 a', .int .u64 b', .int .u64 c'])).run Try.prog w = .ok (.bool (a == a' && b == b' && c == c')) w := by
  rw [run_eql_struct, equal_kept]; rfl
theorem neq_kept (a b c a' b' c' : Int) (w : World) : (binOp .neq 33 (.agg #[.int .i64 a, .int .u64 b, .int .u64 c]) (.agg #[.int .i64 a', .int .u64 b', .int .u64 c'])).run Try.prog w = .ok (.bool (!(a == a' && b == b' && c == c'))) w := by
  rw [run_neq_struct, equal_kept]; rfl

/-- A row of what is kept, at a place. -/
theorem kept_at {w w' : World} {M : List Kt} {q : Option Addr} {m cap i : Nat} {x : Kt} {S : List Nat} (h : SliceIs w 33 3 (M.map encK) (.slice q m cap)) (ho : Only S w w') (hn : ∀ b ∈ blockOf (.slice q m cap), b ∉ S) (hx : M[i]? = some x) :
    ∃ g off, q = some ⟨g, off, none⟩ ∧ g < w'.heap.size ∧ w'.cell? ⟨g, off + i * 3, none⟩ = some (.int .i64 x.p) ∧ w'.cell? ⟨g, off + i * 3 + 1, none⟩ = some (.int .u64 x.n) ∧ w'.cell? ⟨g, off + i * 3 + 2, none⟩ = some (.int .u64 x.d) := by
  have hMi2 : (M.map encK)[i]? = some (encK x) := by rw [List.getElem?_map, hx]; rfl
  have hs2 := h.only ho hn
  generalize hV : Value.slice q m cap = Vs at hs2
  have hne : M.map encK ≠ [] := by intro hc; rw [hc] at hMi2; simp at hMi2
  generalize M.map encK = xs at hs2 hne hMi2
  cases hs2 with
  | nil => exact absurd rfl hne
  | @row _ g off cap2 hr =>
    obtain ⟨h5, _, h7⟩ := Value.slice.inj hV
    subst h5
    exact ⟨g, off, rfl, hr.lt, hr.cell (f := 0) hMi2 rfl, hr.cell (f := 1) hMi2 rfl, hr.cell (f := 2) hMi2 rfl⟩

set_option maxRecDepth 100000 in
set_option maxHeartbeats 4000000 in
theorem law_again (a : Option Addr) (cap draws k8 : Nat) (D : List (Nat × Nat)) (w : World) (h : OffersIn w a D) (hml : D.length ≤ maxLen) (hd : draws < 18446744073709551616) (hm : k8 < 256) :
    Calls Try.prog 4 #[.slice a D.length cap, .int .u8 k8, .int .u64 draws] w fun e w' => e = .returned (.bool true) ∧ Only [] w w' := by
  have hK := Lib.hid known_walk
  have hg := guard_kept
  have he := neq_kept
  unfold maxLen at hml
  have hN : Hid (Calls Try.prog 10 #[.int .i64 (1 + (k8 : Int) % 8), .int .u64 draws] w fun e w' => e = .returned (.pointer (some ⟨w.heap.size, 0, none⟩)) ∧ Smp w w' w.heap.size (1 + k8 % 8) draws 0 []) := Lib.hid (by
    have := smp_new (w := w) (1 + k8 % 8) draws (by omega) (by omega) hd
    rwa [show ((1 + k8 % 8 : Nat) : Int) = 1 + (k8 : Int) % 8 by omega] at this)
  obtain ⟨keep, hkeep⟩ : ∃ k, k = 1 + k8 % 8 := ⟨_, rfl⟩
  rw [← hkeep] at hN
  by_cases h60 : 60 < D.length
  · have t2 : decide ((60 : Int) < (D.length : Int)) = true := decide_eq_true (by omega)
    go_enter Try.func4, Try.ntmps4
    go_wp2_with fail
    refine hN.out.mono ?_
    rintro e w1 ⟨rfl, s1⟩
    have O1 := Lib.hid (s1.only.mono (S' := []) (by intro k hk hl; simp only [List.mem_singleton] at hk; omega))
    clear s1
    go_wp2_with fail
    refine (hK.out _).mono ?_
    rintro _ w2 ⟨rfl, o1⟩
    go_wp2_with fail
    go_ret
    exact ⟨rfl, O1.out.trans o1⟩
  · have t2 : decide ((60 : Int) < (D.length : Int)) = false := decide_eq_false (by omega)
    have Hk := Lib.hid hkeep
    have Hin := Lib.hid h
    have hlen : D.length ≤ 60 := by omega
    have hkb : keep ≤ 8 := by omega
    clear hkeep h h60
    go_enter Try.func4, Try.ntmps4
    go_wp2_with fail
    refine hN.out.mono ?_
    rintro e w1 ⟨rfl, s1⟩
    have Hs1 := Lib.hid s1
    clear s1
    go_wp2_with fail
    refine (hK.out _).mono ?_
    rintro _ w1b ⟨rfl, o1b⟩
    have Hs1b := Lib.hid (Hs1.out.shift o1b)
    clear o1b
    go_wp2_with fail
    go_loopw [8] (fun iv wr => ∃ i : Nat, iv = .int .i64 i ∧ i ≤ D.length ∧ Smp w wr w.heap.size keep draws i (heldS keep draws ((inD D).take i))) (fun iv _ => D.length - (intOf iv).toNat)
    case atStart => exact ⟨0, rfl, Nat.zero_le _, Hs1b.out⟩
    case round =>
      obtain ⟨i, rfl, hi, hs⟩ := hrel
      by_cases hil : i < D.length
      · obtain ⟨b, off, W, V, rfl, hb, hget, hW, hV, c0, c1⟩ := Hin.out.at (hs.only.mono (S' := []) (by intro k hk hl; simp only [List.mem_singleton] at hk; omega)) hil
        have hst := heldS_take (keep := keep) (draws := draws) (inD_get hget)
        have cW : IntKind.u64.wrap ((W : Int) + 1) = ((W + 1 : Nat) : Int) := by rw [wrap_u64]; omega
        have cA := smp_add (hs.shift ((Only.refl [] wr).drew)) (W + 1) V (by omega) (by omega) (by omega) (by omega)
        have HA := Lib.hid (And.intro hst cA)
        clear hst cA hget hs
        go_wp2_with fail
        refine region_tail 14 (by kernel_rfl) (by kernel_rfl) ?_
        simp only [List.take_succ_cons, List.take_zero, List.drop_succ_cons, List.drop_zero]
        repeat still_step
        refine wpStill_nil ?_
        go_wp2_with fail
        refine HA.out.2.mono ?_
        rintro e w2 ⟨rfl, s2⟩
        rw [← HA.out.1] at s2
        have Hs2 := Lib.hid s2
        clear s2
        go_wp2_with fail
        go_roundw
        case rel => exact ⟨i + 1, by go_num, by omega, Hs2.out⟩
        case measure => simp [intOf]; omega
      · have hie : i = D.length := by omega
        subst hie
        rw [← inD_len D, List.take_length, inD_len] at hs
        have hcl := smp_close hs
        have Hwr : Hid (w.heap.size < wr.heap.size) := Lib.hid (by
          obtain ⟨sv, hsv, _⟩ := hs.ex
          obtain ⟨L0, hL0, _⟩ := hsv.body
          exact lt_of_blk hL0.blk)
        have Hcl := Lib.hid hcl
        have HO := Lib.hid hs.only
        clear hcl hs
        go_wp2_with fail
        refine Hcl.out.mono ?_
        rintro e w2 ⟨M, rv, rfl, hM, hp, hpw, s5, o5, hrv⟩
        have hG := great_places hp hpw
        rw [inD_len] at hG
        obtain ⟨q, cap3, hrvf⟩ := hM.form
        rw [List.length_map] at hrvf
        subst hrvf
        have hhp : w.heap.size ∉ blockOf (.slice q M.length cap3) := by
          intro hm
          have h1 := hrv _ hm
          have h2 := HO.out.size
          have h3 := Hwr.out
          omega
        have hMl : M.length ≤ 60 := by rw [← List.length_map (f := Kt.p), hG.len]; omega
        have HM := Lib.hid (And.intro hM (And.intro hp (And.intro hpw (And.intro hG (And.intro o5 hhp)))))
        have Hs5 := Lib.hid s5
        clear hM hp hpw s5 o5 hrv hG hhp
        go_wp2_with fail
        refine (smp_len Hs5.out).mono ?_
        rintro e w3 ⟨rfl, hw3⟩
        obtain rfl : w2 = w3 := hw3.symm
        go_wp2_with fail
        refine (smp_close Hs5.out).mono ?_
        rintro e w3 ⟨M0, rv0, rfl, hM0, hp0, _, s6, o6, _⟩
        have hn0 : M0 = [] := List.Perm.eq_nil hp0
        subst hn0
        obtain ⟨q0, cap0, hrv0⟩ := hM0.form
        rw [List.map_nil, List.length_nil] at hrv0
        subst hrv0
        have HM6 := Lib.hid (And.intro o6 s6)
        clear hM0 hp0 o6 s6
        go_wp2_with fail
        go_loopw [10] (fun iv wr => ∃ i : Nat, iv = .int .i64 i ∧ i ≤ D.length ∧ Smp w3 wr w.heap.size keep draws i (heldS keep draws ((inD D).take i))) (fun iv _ => D.length - (intOf iv).toNat)
        case atStart => exact ⟨0, rfl, Nat.zero_le _, HM6.out.2⟩
        case round =>
          obtain ⟨i, rfl, hi, hs⟩ := hrel
          have hwm : Only [] w wr := (((HM.out.2.2.2.2.1).trans HM6.out.1).trans hs.only).mono (S' := []) (by intro k hk hl; simp only [List.mem_singleton] at hk; omega)
          by_cases hil : i < D.length
          · obtain ⟨b, off, W, V, rfl, hb, hget, hW, hV, c0, c1⟩ := Hin.out.at hwm hil
            have hst := heldS_take (keep := keep) (draws := draws) (inD_get hget)
            have cW : IntKind.u64.wrap ((W : Int) + 1) = ((W + 1 : Nat) : Int) := by rw [wrap_u64]; omega
            have cU : IntKind.u64.wrap (W : Int) = (W : Int) := by rw [wrap_u64]; omega
            have cV : IntKind.u64.wrap (V : Int) = (V : Int) := by rw [wrap_u64]; omega
            have cA := smp_add (hs.shift ((Only.refl [] wr).drew)) (W + 1) V (by omega) (by omega) (by omega) (by omega)
            have HA := Lib.hid (And.intro hst cA)
            clear hst cA hget hs hwm
            go_wp2_with fail
            go_region_with (go_at_call 11; refine HA.out.2.mono ?_; rintro e w4 ⟨rfl, s2⟩; have Hs2 := Lib.hid s2; clear s2)
            all_goals rw [← HA.out.1] at Hs2
            all_goals go_wp2_with fail
            all_goals
              go_roundw
              case rel => exact ⟨i + 1, by go_num, by omega, Hs2.out⟩
              case measure => simp [intOf]; omega
          · have hie : i = D.length := by omega
            subst hie
            rw [← inD_len D, List.take_length, inD_len] at hs
            have hcl2 := smp_close hs
            have Hcl2 := Lib.hid hcl2
            have HO2 := Lib.hid hwm
            clear hcl2 hs hwm
            go_wp2_with fail
            refine Hcl2.out.mono ?_
            rintro e w5 ⟨N, rvb, rfl, hN, hpN, hpwN, _, o7, _⟩
            have hMN : M = N := by
              refine kept_eq (HM.out.2.1.trans hpN.symm) HM.out.2.2.1 hpwN ?_
              have h1 := (great_places hpN hpwN).asc
              rw [List.pairwise_map] at h1
              exact h1.imp (fun h => Nat.ne_of_lt h)
            subst hMN
            obtain ⟨qb, capb, hrvb⟩ := hN.form
            rw [List.length_map] at hrvb
            subst hrvb
            have o25 : Only [w.heap.size] w2 w5 := HM6.out.1.trans o7
            have HE := Lib.hid (And.intro o25 (And.intro hN (HM.out.2.2.2.2.1.trans o25)))
            have tn : ((M.length : Int) != (M.length : Int)) = false := by simp
            clear hpN hpwN o7 o25 hN
            go_wp2_with fail
            go_loopw [14] (fun iv wr => ∃ i : Nat, iv = .int .i64 i ∧ i ≤ M.length ∧ Only [] w5 wr) (fun iv _ => M.length - (intOf iv).toNat)
            case atStart => exact ⟨0, rfl, Nat.zero_le _, Only.refl _ _⟩
            case round =>
              obtain ⟨i, rfl, hi, ow⟩ := hrel
              by_cases hil : i < M.length
              · obtain ⟨x, hx⟩ : ∃ x, M[i]? = some x := ⟨_, List.getElem?_eq_getElem hil⟩
                obtain ⟨g1, off1, rfl, hg1, k0, k1, k2⟩ := kept_at HM.out.1 (HE.out.1.trans' ow (by simp)) (by intro b hb; have := HM.out.2.2.2.2.2; simp only [List.mem_singleton]; rintro rfl; exact this hb) hx
                obtain ⟨g2, off2, rfl, hg2, l0, l1, l2⟩ := kept_at HE.out.2.1 ow (by simp) hx
                have Ow := Lib.hid ow
                clear ow hx
                go_wp2_with fail
                go_quiet (fail)
                go_wp2_with fail
                go_roundw
                case rel => exact ⟨i + 1, by go_num, by omega, Ow.out.drewN _⟩
                case measure => simp [intOf]; omega
              · have hie : i = M.length := by omega
                subst hie
                have Ow := Lib.hid ow
                clear ow
                go_wp2_with fail
                go_ret
                exact ⟨rfl, ((HE.out.2.2).mono (S' := []) (by intro k hk hl; simp only [List.mem_singleton] at hk; omega)).trans Ow.out⟩

theorem again_top (a : Option Addr) (len cap : Nat) (a1 a2 : Int) (w : World) (w0 : OffersW w a len) (w1 : (Lit.int .u8 a1).wf = true) (w2 : (Lit.int .u64 a2).wf = true) :
    Calls Try.prog 4 #[.slice a len cap, .int .u8 a1, .int .u64 a2] w fun e w' => e = .returned (.bool true) ∧ Only [] w w' := by
  obtain ⟨D, rfl, hm, hD⟩ := w0
  obtain ⟨l1, h1⟩ := bounds_u8 w1
  obtain ⟨l2, h2⟩ := bounds_u64 w2
  obtain ⟨n1, rfl⟩ : ∃ n : Nat, a1 = n := ⟨a1.toNat, by omega⟩
  obtain ⟨n2, rfl⟩ : ∃ n : Nat, a2 = n := ⟨a2.toNat, by omega⟩
  exact law_again a cap n2 n1 D w hD hm (by omega) (by omega)

end Go.Proofs.Ytbboklmmnnedjaa
