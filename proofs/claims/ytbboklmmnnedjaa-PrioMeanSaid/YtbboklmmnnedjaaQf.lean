/- The law PrioGreatest, walked. -/
import Derived.Test.YtbboklmmnnedjaaQe
import Derived.Test.YtbboklmmnnedjaaUa
set_option linter.unusedVariables false
set_option linter.unusedSimpArgs false
namespace Go.Proofs.Ytbboklmmnnedjaa
open Go.RowKit Go.Mk Go.Pr

theorem drawn_walk (d draws : Nat) (w : World) (hd : d < 256) (hr : draws < 18446744073709551616) :
    Calls Try.prog 19 #[.int .u8 d, .int .u64 draws] w fun e w' => e = .returned (.int .u64 ((drawn draws d : Nat) : Int)) ∧ w' = w := by
  by_cases h : draws = 0
  · subst h
    have e : drawn 0 d = d := rfl
    rw [e]
    go_enter Try.func19, Try.ntmps19
    go_wp2_with fail
    go_ret
    exact ⟨rfl, rfl⟩
  · have e : drawn draws d = d % draws := if_neg h
    have t1 : ((draws : Int) == 0) = false := by rw [beq_eq_false_iff_ne]; omega
    have hp : 0 < draws := by omega
    rw [e]
    clear e h
    go_enter Try.func19, Try.ntmps19
    go_wp2_with fail
    go_ret
    exact ⟨by simp, rfl⟩

theorem info_int : ∃ i, Try.prog.info? 3 = some i ∧ i.zero = some (.int .i64 0) ∧ i.size = 1 ∧ i.bytes = 8 := by
  obtain ⟨i0, hi, hz0, hz1, hz2⟩ := info_parts (P := Try.prog) (e := 3) (z := .int .i64 0) (size := 1) (bytes := 8) (by kernel_rfl)
  exact ⟨i0, hi, hz0, hz1, hz2⟩

set_option maxRecDepth 100000 in
set_option maxHeartbeats 4000000 in
theorem law_great (a : Option Addr) (cap draws k8 : Nat) (D : List (Nat × Nat)) (w : World) (h : OffersIn w a D) (hml : D.length ≤ maxLen) (hd : draws < 18446744073709551616) (hm : k8 < 256) :
    Calls Try.prog 9 #[.slice a D.length cap, .int .u8 k8, .int .u64 draws] w fun e w' => e = .returned (.bool true) ∧ Only [] w w' := by
  have hK := Lib.hid known_walk
  unfold maxLen at hml
  have hN : Hid (Calls Try.prog 10 #[.int .i64 (1 + (k8 : Int) % 8), .int .u64 draws] w fun e w' => e = .returned (.pointer (some ⟨w.heap.size, 0, none⟩)) ∧ Smp w w' w.heap.size (1 + k8 % 8) draws 0 []) := Lib.hid (by
    have := smp_new (w := w) (1 + k8 % 8) draws (by omega) (by omega) hd
    rwa [show ((1 + k8 % 8 : Nat) : Int) = 1 + (k8 : Int) % 8 by omega] at this)
  obtain ⟨keep, hkeep⟩ : ∃ k, k = 1 + k8 % 8 := ⟨_, rfl⟩
  rw [← hkeep] at hN
  by_cases h60 : 60 < D.length
  · have t2 : decide ((60 : Int) < (D.length : Int)) = true := decide_eq_true (by omega)
    go_enter Try.func9, Try.ntmps9
    go_wp2_with fail
    refine hN.out.mono ?_
    rintro e w1 ⟨rfl, s1⟩
    have O1 := Lib.hid (s1.only.mono (S' := []) (by intro k hk hl; simp only [List.mem_singleton] at hk; omega))
    clear s1
    go_wp2_with fail
    refine (hK.out _).mono ?_
    rintro _ w2 ⟨rfl, o1⟩
    go_wp2_with fail
    go_ret
    exact ⟨rfl, O1.out.trans o1⟩
  · have t2 : decide ((60 : Int) < (D.length : Int)) = false := decide_eq_false (by omega)
    have Hk := Lib.hid hkeep
    have Hin := Lib.hid h
    have hlen : D.length ≤ 60 := by omega
    have hkb : keep ≤ 8 := by omega
    clear hkeep h h60
    go_enter Try.func9, Try.ntmps9
    go_wp2_with fail
    refine hN.out.mono ?_
    rintro e w1 ⟨rfl, s1⟩
    have Hs1 := Lib.hid s1
    clear s1
    go_wp2_with fail
    refine (hK.out _).mono ?_
    rintro _ w1b ⟨rfl, o1b⟩
    have Hs1b := Lib.hid (Hs1.out.shift o1b)
    clear o1b
    go_wp2_with fail
    go_loopw [8] (fun iv wr => ∃ i : Nat, iv = .int .i64 i ∧ i ≤ D.length ∧ Smp w wr w.heap.size keep draws i (heldS keep draws ((inD D).take i))) (fun iv _ => D.length - (intOf iv).toNat)
    case atStart => exact ⟨0, rfl, Nat.zero_le _, Hs1b.out⟩
    case round =>
      obtain ⟨i, rfl, hi, hs⟩ := hrel
      by_cases hil : i < D.length
      · obtain ⟨b, off, W, V, rfl, hb, hget, hW, hV, c0, c1⟩ := Hin.out.at (hs.only.mono (S' := []) (by intro k hk hl; simp only [List.mem_singleton] at hk; omega)) hil
        have hst := heldS_take (keep := keep) (draws := draws) (inD_get hget)
        have cW : IntKind.u64.wrap ((W : Int) + 1) = ((W + 1 : Nat) : Int) := by rw [wrap_u64]; omega
        have cA := smp_add (hs.shift ((Only.refl [] wr).drew)) (W + 1) V (by omega) (by omega) (by omega) (by omega)
        have HA := Lib.hid (And.intro hst cA)
        clear hst cA hget hs
        go_wp2_with fail
        refine region_tail 14 (by kernel_rfl) (by kernel_rfl) ?_
        simp only [List.take_succ_cons, List.take_zero, List.drop_succ_cons, List.drop_zero]
        repeat still_step
        refine wpStill_nil ?_
        go_wp2_with fail
        refine HA.out.2.mono ?_
        rintro e w2 ⟨rfl, s2⟩
        rw [← HA.out.1] at s2
        have Hs2 := Lib.hid s2
        clear s2
        go_wp2_with fail
        go_roundw
        case rel => exact ⟨i + 1, by go_num, by omega, Hs2.out⟩
        case measure => simp [intOf]; omega
      · have hie : i = D.length := by omega
        subst hie
        rw [← inD_len D, List.take_length, inD_len] at hs
        have hcl := smp_close hs
        have Hcl := Lib.hid hcl
        have HO := Lib.hid hs.only
        clear hcl hs
        go_wp2_with fail
        refine Hcl.out.mono ?_
        rintro e w2 ⟨M, rv, rfl, hM, hp, hpw, s5, o5, hrv⟩
        have hG := great_places hp hpw
        rw [inD_len] at hG
        obtain ⟨m, hmm⟩ : ∃ m, m = M.length := ⟨_, rfl⟩
        have hml2 : m = min D.length keep := by rw [hmm, ← hG.len, List.length_map]
        obtain ⟨q, cap3, hrvf⟩ := hM.form
        rw [List.length_map, ← hmm] at hrvf
        subst hrvf
        have O2 : Only [] w w2 := (o5.mono (S' := []) (by intro k hk hl; simp only [List.mem_singleton] at hk; omega))
        obtain ⟨i0, hi0, hz0, hz1, hz2⟩ := info_int
        obtain ⟨ob, hmk, hrow⟩ := run_make_is (P := Try.prog) (w := w2) Try.underlying49 hi0 hz0 hz1 hz2 rfl D.length (by omega) (by omega)
        have hle : m ≤ D.length := by omega
        have HM := Lib.hid (And.intro hM (And.intro hG (And.intro hmm (And.intro hml2 (And.intro O2 hrow)))))
        clear hM hp hpw s5 o5 hrv hG hmm O2 HO hrow i0 hi0 hz0 hz1 hz2 hml2
        go_wp2_with fail
        have hw2l : w.heap.size ≤ w2.heap.size := HM.out.2.2.2.2.1.size
        go_loopw [11] (fun iv wr => ∃ i : Nat, iv = .int .i64 i ∧ i ≤ m ∧ RowMem wr 3 1 (markL D.length ((M.take i).map Kt.p)) w2.heap.size 0 D.length ∧ Only [] w2 wr) (fun iv _ => m - (intOf iv).toNat)
        case atStart => exact ⟨0, rfl, Nat.zero_le _, by rw [List.take_zero, List.map_nil, ← markL_nil]; exact HM.out.2.2.2.2.2, (Only.refl _ _).alloc _⟩
        case round =>
          obtain ⟨i, rfl, hi, hmr, ow⟩ := hrel
          by_cases him : i < m
          · obtain ⟨hM, hG, hmm, hml2, O2, hrow⟩ := HM.out
            obtain ⟨x, hx⟩ : ∃ x, M[i]? = some x := ⟨_, List.getElem?_eq_getElem (by omega)⟩
            have hMi2 : (M.map encK)[i]? = some (encK x) := by rw [List.getElem?_map, hx]; rfl
            obtain ⟨g2, off2, rfl, hr⟩ : ∃ g off, q = some ⟨g, off, none⟩ ∧ RowMem wr 33 3 (M.map encK) g off cap3 := by
              have hs2 := hM.only ow (by simp)
              generalize hV : Value.slice q m cap3 = Vs at hs2
              have hne : M.map encK ≠ [] := by intro hc; rw [hc] at hMi2; simp at hMi2
              generalize M.map encK = xs at hs2 hne
              cases hs2 with
              | nil => exact absurd rfl hne
              | @row _ g off cap2 hr =>
                obtain ⟨h5, _, h7⟩ := Value.slice.inj hV
                subst h7 h5
                exact ⟨g, off, rfl, hr⟩
            have hpi : (M.map Kt.p)[i]? = some x.p := by rw [List.getElem?_map, hx]; rfl
            have hxp : x.p < D.length := hG.lt _ (List.mem_of_getElem? hpi)
            have hnot : x.p ∉ (M.take i).map Kt.p := by
              intro hc
              obtain ⟨y, hy, hye⟩ := List.mem_map.1 hc
              obtain ⟨j, hj, rfl⟩ := List.getElem_of_mem hy
              rw [List.length_take] at hj
              have hw := List.pairwise_iff_getElem.1 hG.asc j i (by simp; omega) (by simp; omega) (by omega)
              simp only [List.getElem_map] at hw
              have hxe : M[i]'(by omega) = x := (List.getElem?_eq_some_iff.1 hx).2
              rw [hxe] at hw
              simp only [List.getElem_take] at hye
              omega
            have hmk0 := hmr.cell (f := 0) (markL_get hxp) rfl
            rw [if_neg hnot] at hmk0
            have m0 : wr.cell? ⟨w2.heap.size, x.p, none⟩ = some (.int .i64 0) := by simpa using hmk0
            have mf : wr.frozen? ⟨w2.heap.size, x.p, none⟩ = false := hmr.frozen _
            have k0 : wr.cell? ⟨g2, off2 + i * 3, none⟩ = some (.int .i64 x.p) := hr.cell (f := 0) hMi2 rfl
            have hg2 := hr.lt
            have hgm := hmr.lt
            have hset := fun n => (hmr.only ((Only.refl [] wr).drewN n) (by simp)).setCell (f := 0) (markL_get hxp) (by omega) (.int .i64 1)
            have hst : (markL D.length ((M.take i).map Kt.p)).set x.p ([Value.int .i64 (if x.p ∈ (M.take i).map Kt.p then 1 else 0)].set 0 (.int .i64 1)) = markL D.length ((M.take (i + 1)).map Kt.p) := by
              rw [List.take_add_one, hx, List.map_append]
              exact markL_set hxp
            simp only [hst, show 0 + x.p * 1 + 0 = x.p by omega] at hset
            have t1 : decide ((x.p : Int) < 0) = false := decide_eq_false (by omega)
            have t2 : decide ((D.length : Int) ≤ (x.p : Int)) = false := decide_eq_false (by omega)
            have t2' : decide (D.length ≤ x.p) = false := decide_eq_false (by omega)
            have HS := Lib.hid (And.intro hset ow)
            by_cases hi0 : i = 0
            · have t3 : decide ((0 : Int) < (i : Int)) = false := decide_eq_false (by omega)
              have t3' : decide (0 < i) = false := decide_eq_false (by omega)
              have t4 : ((0 : Int) == 1) = false := rfl
              clear hi0
              clear hM hG hmm hml2 O2 hrow hMi2 hr hpi hnot hmk0 hset hst hx hmr ow
              go_wp2_with fail
              go_quiet (fail)
              go_wp2_with fail
              go_roundw
              case rel => exact ⟨i + 1, by go_num, by omega, HS.out.1 _, (HS.out.2.drewN _).setCell (.inr (Nat.le_refl _)) _⟩
              case measure => simp [intOf]; omega
            · have t3 : decide ((0 : Int) < (i : Int)) = true := decide_eq_true (by omega)
              have t3' : decide (0 < i) = true := decide_eq_true (by omega)
              have hgt : 0 < i := by omega
              have t4 : ((0 : Int) == 1) = false := rfl
              obtain ⟨y, hy⟩ : ∃ y, M[i - 1]? = some y := ⟨_, List.getElem?_eq_getElem (by omega)⟩
              have hMy : (M.map encK)[i - 1]? = some (encK y) := by rw [List.getElem?_map, hy]; rfl
              have k1 : wr.cell? ⟨g2, off2 + (i - 1) * 3, none⟩ = some (.int .i64 y.p) := hr.cell (f := 0) hMy rfl
              have hyx : y.p < x.p := by
                have hw := List.pairwise_iff_getElem.1 hG.asc (i - 1) i (by simp; omega) (by simp; omega) (by omega)
                simp only [List.getElem_map] at hw
                rw [(List.getElem?_eq_some_iff.1 hx).2, (List.getElem?_eq_some_iff.1 hy).2] at hw
                exact hw
              have t5 : decide ((x.p : Int) ≤ (y.p : Int)) = false := decide_eq_false (by omega)
              have t5' : decide (x.p ≤ y.p) = false := decide_eq_false (by omega)
              have b1 : (0 : Int) ≤ (i : Int) - 1 := by omega
              have b2 : (i : Int) - 1 < (m : Int) := by omega
              have b3 : ((i : Int) - 1).toNat = i - 1 := by omega
              have b4 : IntKind.i64.wrap ((i : Int) - 1) = (i : Int) - 1 := IntWalk.i64_in _ (by omega)
              clear hi0
              clear hM hG hmm hml2 O2 hrow hMi2 hr hpi hnot hmk0 hset hst hx hmr ow hy hMy
              go_wp2_with fail
              go_quiet (fail)
              go_wp2_with fail
              go_roundw
              case rel => exact ⟨i + 1, by go_num, by omega, HS.out.1 _, (HS.out.2.drewN _).setCell (.inr (Nat.le_refl _)) _⟩
              case measure => simp [intOf]; omega
          · have him2 : i = m := by omega
            subst him2
            obtain ⟨hM, hG, hmm, hml2, O2, hrow⟩ := HM.out
            rw [List.take_of_length_le (by omega)] at hmr
            obtain ⟨P, hP⟩ : ∃ P, P = M.map Kt.p := ⟨_, rfl⟩
            rw [← hP] at hmr hG
            obtain ⟨w3, hw3⟩ : ∃ w3, w3 = wr := ⟨_, rfl⟩
            subst hw3
            have HG := Lib.hid (And.intro hmr (And.intro hG (And.intro (O2.trans ow) (And.intro Hk.out hml2))))
            have hgm := hmr.lt
            clear hM hG hmm hml2 O2 hrow hmr ow HM hP
            go_wp2_with fail
            go_loopw [12] (fun iv wr => ∃ x : Nat, iv = .int .i64 x ∧ x ≤ D.length ∧ Only [] w3 wr) (fun iv _ => D.length - (intOf iv).toNat)
            case atStart => exact ⟨0, rfl, Nat.zero_le _, Only.refl _ _⟩
            case round =>
              obtain ⟨x, rfl, hx, ow⟩ := hrel
              by_cases hxl : x < D.length
              · obtain ⟨w4, hw4⟩ : ∃ w4, w4 = wr := ⟨_, rfl⟩
                subst hw4
                have Ow4 := Lib.hid ow
                clear ow
                go_wp2_with fail
                go_loopw [13] (fun iv wr => ∃ y : Nat, iv = .int .i64 y ∧ y ≤ D.length ∧ Only [] w3 wr) (fun iv _ => D.length - (intOf iv).toNat)
                case atStart => exact ⟨0, rfl, Nat.zero_le _, Ow4.out⟩
                case round =>
                  obtain ⟨y, rfl, hy, ow⟩ := hrel
                  by_cases hyl : y < D.length
                  · obtain ⟨hmr, hG, ow0, _, _⟩ := HG.out
                    have hmr2 := hmr.only ow (by simp)
                    have n0 := hmr2.cell (f := 0) (markL_get hxl) rfl
                    have n1 := hmr2.cell (f := 0) (markL_get hyl) rfl
                    have hgm2 := hmr2.lt
                    obtain ⟨b, off, W, V, rfl, hb, hget, hW, hV, c0, c1⟩ := Hin.out.at (ow0.trans ow) hxl
                    obtain ⟨b', off', W', V', he, _, hget', hW', hV', d0, d1⟩ := Hin.out.at (ow0.trans ow) hyl
                    cases he
                    have hab : x ∉ P → y ∈ P → aboveN (W + 1) (drawn draws V) (W' + 1) (drawn draws V') = false := hG.above x y _ _ (inD_get hget) (inD_get hget')
                    have cW : IntKind.u64.wrap ((W : Int) + 1) = ((W + 1 : Nat) : Int) := by rw [wrap_u64]; omega
                    have cW' : IntKind.u64.wrap ((W' : Int) + 1) = ((W' + 1 : Nat) : Int) := by rw [wrap_u64]; omega
                    have Hab := Lib.hid hab
                    have Ow := Lib.hid ow
                    have z1 : ((0 : Int) == 1) = false := rfl
                    have z2 : ((1 : Int) == 0) = false := rfl
                    clear hmr hG ow0 hmr2 hget hget' hab ow
                    by_cases hxP : x ∈ P
                    · rw [if_pos hxP] at n0
                      have n0' : wr.cell? ⟨w2.heap.size, x, none⟩ = some (.int .i64 1) := by simpa using n0
                      clear n0 n1
                      go_wp2_with fail
                      go_quiet (fail)
                      go_wp2_with fail
                      go_roundw
                      case rel => exact ⟨y + 1, by go_num, by omega, Ow.out.drewN _⟩
                      case measure => simp [intOf]; omega
                    · rw [if_neg hxP] at n0
                      have n0' : wr.cell? ⟨w2.heap.size, x, none⟩ = some (.int .i64 0) := by simpa using n0
                      by_cases hyP : y ∈ P
                      · rw [if_pos hyP] at n1
                        have n1' : wr.cell? ⟨w2.heap.size, y, none⟩ = some (.int .i64 1) := by simpa using n1
                        have hf := Hab.out hxP hyP
                        have hdr : ∀ v, drawn draws v < 18446744073709551616 ∨ 256 ≤ v := by
                          intro v
                          by_cases h0 : draws = 0
                          · rw [h0]; show v < _ ∨ _; omega
                          · by_cases hv : 256 ≤ v
                            · exact .inr hv
                            · left
                              unfold drawn
                              rw [if_neg h0]
                              exact Nat.lt_of_lt_of_le (Nat.mod_lt _ (by omega)) (by omega)
                        have hd1 : drawn draws V < big := by unfold big; have := hdr V; omega
                        have hd2 : drawn draws V' < big := by unfold big; have := hdr V'; omega
                        have R1 := fun v W (h : v < 256) => drawn_walk v draws W h hd
                        have R3 := fun Wd => rabove_walk (W + 1) (drawn draws V) (W' + 1) (drawn draws V') Wd (by unfold big; omega) hd1 (by unfold big; omega) hd2
                        rw [hf] at R3
                        have HR := Lib.hid (And.intro R1 R3)
                        clear n0 n1 R1 R3 hf hdr hd1 hd2
                        go_wp2_with fail
                        go_quiet ((first | (go_at_call 19; exact Calls.quiet_of_same (HR.out.1 _ _ (by assumption))) | (go_at_call 17; exact Calls.quiet_of_same (HR.out.2 _))))
                        go_wp2_with fail
                        go_roundw
                        case rel => exact ⟨y + 1, by go_num, by omega, Ow.out.drewN _⟩
                        case measure => simp [intOf]; omega
                      · rw [if_neg hyP] at n1
                        have n1' : wr.cell? ⟨w2.heap.size, y, none⟩ = some (.int .i64 0) := by simpa using n1
                        clear n0 n1
                        go_wp2_with fail
                        go_quiet (fail)
                        go_wp2_with fail
                        go_roundw
                        case rel => exact ⟨y + 1, by go_num, by omega, Ow.out.drewN _⟩
                        case measure => simp [intOf]; omega
                  · have hye : y = D.length := by omega
                    subst hye
                    have Ow := Lib.hid ow
                    clear ow
                    go_wp2_with fail
                    go_roundw
                    case rel => exact ⟨x + 1, by go_num, by omega, Ow.out⟩
                    case measure => simp [intOf]; omega
              · have hxe : x = D.length := by omega
                subst hxe
                have Ow := Lib.hid ow
                have hml2 := HG.out.2.2.2.2
                have hk2 := HG.out.2.2.2.1
                have tmin : ((i : Int) == min (D.length : Int) (1 + (k8 : Int) % 8)) = true := by
                  rw [beq_iff_eq, hml2, hk2]; omega
                clear ow hml2 hk2
                go_wp2_with fail
                go_ret
                exact ⟨rfl, HG.out.2.2.1.trans Ow.out⟩

theorem great_top (a : Option Addr) (len cap : Nat) (a1 a2 : Int) (w : World) (w0 : OffersW w a len) (w1 : (Lit.int .u8 a1).wf = true) (w2 : (Lit.int .u64 a2).wf = true) :
    Calls Try.prog 9 #[.slice a len cap, .int .u8 a1, .int .u64 a2] w fun e w' => e = .returned (.bool true) ∧ Only [] w w' := by
  obtain ⟨D, rfl, hm, hD⟩ := w0
  obtain ⟨l1, h1⟩ := bounds_u8 w1
  obtain ⟨l2, h2⟩ := bounds_u64 w2
  obtain ⟨n1, rfl⟩ : ∃ n : Nat, a1 = n := ⟨a1.toNat, by omega⟩
  obtain ⟨n2, rfl⟩ : ∃ n : Nat, a2 = n := ⟨a2.toNat, by omega⟩
  exact law_great a cap n2 n1 D w hD hm (by omega) (by omega)

end Go.Proofs.Ytbboklmmnnedjaa
