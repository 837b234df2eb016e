/- Offers that came in; the law PrioAll, walked. -/
import Derived.Test.YtbboklmmnnedjaaPz
import Derived.Test.YtbboklmmnnedjaaMh
set_option linter.unusedVariables false
set_option linter.unusedSimpArgs false
namespace Go.Proofs.Ytbboklmmnnedjaa
open Go.RowKit Go.Mk Go.Pr

/-- A slice of offers that came in. -/
structure OffersIn (w : World) (a : Option Addr) (D : List (Nat × Nat)) : Prop where
  small : ∀ x ∈ D, x.1 < 256 ∧ x.2 < 256
  cells : 0 < D.length → ∃ b off, a = some ⟨b, off, none⟩ ∧ b < w.heap.size ∧ ∀ i x, D[i]? = some x → w.cell? ⟨b, off + i * 2, none⟩ = some (.int .u8 x.1) ∧ w.cell? ⟨b, off + i * 2 + 1, none⟩ = some (.int .u8 x.2)

theorem offers_in {H : Type} {enc : TypeId × Value → H} {w : World} {base : Nat} {spare : Nat → Bool} {held : Bool} {a : Option Addr} {len cap : Nat} {d : DataW H} {ps : List MemPlace}
    (h : DataW.Trod enc Try.prog w base spare held 35 (.slice a len cap) d ps) : ∃ D, D.length = len ∧ len ≤ maxLen ∧ OffersIn w a D := by
  have hS : Try.prog.underlying 37 = some (.struct (Try.prog.fieldsOf 37)) := by kernel_rfl
  have hz : (Try.prog.fieldsOf 37).toList.map (fun f => (f.offset, Try.prog.cellsOf f.type, f.type)) = [(0, 1, 5), (1, 1, 5)] := by kernel_rfl
  have hsz : (Try.prog.fieldsOf 37).size = 2 := by kernel_rfl
  obtain ⟨h1, h2⟩ := structs_in (K := .u8) (m := 2) Try.underlying35 hS (by kernel_rfl) hsz (by omega) (fun j f hj => by
    have hj' : (Try.prog.fieldsOf 37).toList[j]? = some f := by rw [Array.getElem?_toList]; exact hj
    have e1 : ((Try.prog.fieldsOf 37).toList.map (fun f => (f.offset, Try.prog.cellsOf f.type, f.type)))[j]? = some (f.offset, Try.prog.cellsOf f.type, f.type) := by rw [List.getElem?_map, hj']; rfl
    rw [hz] at e1
    have hjl : j < 2 := by have := (List.getElem?_eq_some_iff.1 e1).1; simpa using this
    rcases (show j = 0 ∨ j = 1 by omega) with rfl | rfl
    all_goals
      simp only [List.getElem?_cons_zero, List.getElem?_cons_succ, Option.some.injEq, Prod.mk.injEq] at e1
      obtain ⟨e2, e3, e4⟩ := e1
      refine ⟨e2.symm, e3.symm, ?_⟩
      rw [← e4]; exact Try.underlying5) h
  by_cases h0 : 0 < len
  · obtain ⟨b, off, he, hb, hc⟩ := h2 h0
    obtain ⟨D, hD, hR⟩ := list_of (R := fun i (x : Nat × Nat) => x.1 < 256 ∧ x.2 < 256 ∧ w.cell? ⟨b, off + i * 2, none⟩ = some (.int .u8 x.1) ∧ w.cell? ⟨b, off + i * 2 + 1, none⟩ = some (.int .u8 x.2)) len (fun i hi => by
      obtain ⟨x, hx, wx⟩ := hc i hi 0 (by omega)
      obtain ⟨y, hy, wy⟩ := hc i hi 1 (by omega)
      obtain ⟨l1, m1⟩ := bounds_u8 wx
      obtain ⟨l2, m2⟩ := bounds_u8 wy
      refine ⟨(x.toNat, y.toNat), by simp only; omega, by simp only; omega, ?_, ?_⟩
      · have : ((x.toNat : Nat) : Int) = x := by omega
        simp only [this]
        exact hx
      · have : ((y.toNat : Nat) : Int) = y := by omega
        simp only [this]
        exact hy)
    refine ⟨D, hD, h1, fun x hx => ?_, fun _ => ⟨b, off, he, hb, fun i x hx => ?_⟩⟩
    · obtain ⟨i, hi, rfl⟩ := List.getElem_of_mem hx
      have := hR i _ (List.getElem?_eq_getElem hi)
      exact ⟨this.1, this.2.1⟩
    · exact (hR i x hx).2.2
  · refine ⟨[], by simp; omega, h1, by simp, fun h => by simp at h⟩

theorem OffersIn.at {w w' : World} {a : Option Addr} {D : List (Nat × Nat)} (h : OffersIn w a D) (ho : Only [] w w') {i : Nat} (hi : i < D.length) : ∃ b off W V, a = some ⟨b, off, none⟩ ∧ b < w'.heap.size ∧ D[i]? = some (W, V) ∧ W < 256 ∧ V < 256 ∧ w'.cell? ⟨b, off + i * 2, none⟩ = some (.int .u8 W) ∧ w'.cell? ⟨b, off + i * 2 + 1, none⟩ = some (.int .u8 V) := by
  obtain ⟨b, off, he, hb, hc⟩ := h.cells (by omega)
  have hx : D[i]? = some D[i] := List.getElem?_eq_getElem hi
  have hs := h.small D[i] (List.getElem_mem hi)
  obtain ⟨c1, c2⟩ := hc i _ hx
  exact ⟨b, off, D[i].1, D[i].2, he, ho.lt hb, hx, hs.1, hs.2, ho.cell c1 (by simp), ho.cell c2 (by simp)⟩

/-- As they are offered. -/
def inD (D : List (Nat × Nat)) : List (Nat × Nat) := D.map (fun x => (x.1 + 1, x.2))
theorem inD_len (D : List (Nat × Nat)) : (inD D).length = D.length := by simp [inD]
theorem inD_get {D : List (Nat × Nat)} {i W V : Nat} (h : D[i]? = some (W, V)) : (inD D)[i]? = some (W + 1, V) := by
  unfold inD; rw [List.getElem?_map, h]; rfl

/-- All are kept, in their order. -/
theorem all_kept {keep draws : Nat} {D : List (Nat × Nat)} {M : List Kt} (h0 : D ≠ []) (hk : D.length ≤ keep) (hp : M.Perm (closeS keep draws (heldS keep draws D))) (hs : M.Pairwise (fun a b => a.p ≤ b.p)) : M = (offs draws 0 D).map lightK := by
  have ht := top_all keep draws D
  have hl := ht.len
  rw [offs_len, Nat.min_eq_left (by omega)] at hl
  obtain ⟨R, hR, _⟩ := ht.rest
  have hlr := hR.length_eq
  rw [List.length_append, offs_len] at hlr
  have hR0 : R = [] := by rw [← List.length_eq_zero_iff]; omega
  subst hR0
  have hperm : (heldS keep draws D).Perm (offs draws 0 D) := hR
  have hc : closeS keep draws (heldS keep draws D) = (heldS keep draws D).map lightK := by
    cases hX : heldS keep draws D with
    | nil => rfl
    | cons b S =>
      rw [hX] at hl
      rw [closeS, if_pos (by simp at hl; omega)]
  rw [hc] at hp
  refine kept_eq (hp.trans (hperm.map lightK)) hs ?_ ?_
  · rw [List.pairwise_map]
    exact (offs_asc draws D 0).imp (fun h => Nat.le_of_lt h)
  · rw [List.pairwise_map]
    exact (offs_asc draws D 0).imp (fun h => Nat.ne_of_lt h)

set_option maxRecDepth 100000 in
set_option maxHeartbeats 2000000 in
theorem law_all (a : Option Addr) (cap draws more : Nat) (D : List (Nat × Nat)) (w : World) (h : OffersIn w a D) (hml : D.length ≤ maxLen) (hd : draws < 18446744073709551616) (hm : more < 256) :
    Calls Try.prog 7 #[.slice a D.length cap, .int .u64 draws, .int .u8 more] w fun e w' => e = .returned (.bool true) ∧ Only [] w w' := by
  have hK := Lib.hid known_walk
  unfold maxLen at hml
  by_cases h0 : D.length = 0
  · have t1 : ((D.length : Int) == 0) = true := by rw [beq_iff_eq]; omega
    go_enter Try.func7, Try.ntmps7
    go_wp2_with fail
    refine (hK.out _).mono ?_
    rintro _ w1 ⟨rfl, o1⟩
    go_wp2_with fail
    go_ret
    exact ⟨rfl, o1⟩
  · have t1 : ((D.length : Int) == 0) = false := by rw [beq_eq_false_iff_ne]; omega
    by_cases h60 : 60 < D.length
    · have t2 : decide ((60 : Int) < (D.length : Int)) = true := decide_eq_true (by omega)
      go_enter Try.func7, Try.ntmps7
      go_wp2_with fail
      refine (hK.out _).mono ?_
      rintro _ w1 ⟨rfl, o1⟩
      go_wp2_with fail
      go_ret
      exact ⟨rfl, o1⟩
    · have t2 : decide ((60 : Int) < (D.length : Int)) = false := decide_eq_false (by omega)
      have hN : Hid (Calls Try.prog 10 #[.int .i64 ((D.length : Int) + (more : Int)), .int .u64 draws] w fun e w' => e = .returned (.pointer (some ⟨w.heap.size, 0, none⟩)) ∧ Smp w w' w.heap.size (D.length + more) draws 0 []) := Lib.hid (by
        have := smp_new (w := w) (D.length + more) draws (by omega) (by omega) hd
        rwa [Int.natCast_add] at this)
      obtain ⟨keep, hkeep⟩ : ∃ k, k = D.length + more := ⟨_, rfl⟩
      rw [← hkeep] at hN
      have Hk := Lib.hid hkeep
      have Hin := Lib.hid h
      have hlen : D.length ≤ 60 := by omega
      have hgt : 0 < D.length := by omega
      clear hkeep h h0 h60
      go_enter Try.func7, Try.ntmps7
      go_wp2_with fail
      refine hN.out.mono ?_
      rintro e w1 ⟨rfl, s1⟩
      have Hs1 := Lib.hid s1
      clear s1
      go_wp2_with fail
      go_loopw [8] (fun iv wr => ∃ i : Nat, iv = .int .i64 i ∧ i ≤ D.length ∧ Smp w wr w.heap.size keep draws i (heldS keep draws ((inD D).take i))) (fun iv _ => D.length - (intOf iv).toNat)
      case atStart => exact ⟨0, rfl, Nat.zero_le _, Hs1.out⟩
      case round =>
        obtain ⟨i, rfl, hi, hs⟩ := hrel
        by_cases hil : i < D.length
        · obtain ⟨b, off, W, V, rfl, hb, hget, hW, hV, c0, c1⟩ := Hin.out.at (hs.only.mono (S' := []) (by intro k hk hl; simp only [List.mem_singleton] at hk; omega)) hil
          have hst := heldS_take (keep := keep) (draws := draws) (inD_get hget)
          have cW : IntKind.u64.wrap ((W : Int) + 1) = ((W + 1 : Nat) : Int) := by rw [wrap_u64]; omega
          have cA := smp_add (hs.shift ((Only.refl [] wr).drew)) (W + 1) V (by omega) (by omega) (by omega) (by omega)
          have HA := Lib.hid (And.intro hst cA)
          clear hst cA hget hs
          go_wp2_with fail
          refine region_tail 14 (by kernel_rfl) (by kernel_rfl) ?_
          simp only [List.take_succ_cons, List.take_zero, List.drop_succ_cons, List.drop_zero]
          repeat still_step
          refine wpStill_nil ?_
          go_wp2_with fail
          refine HA.out.2.mono ?_
          rintro e w2 ⟨rfl, s2⟩
          rw [← HA.out.1] at s2
          have Hs2 := Lib.hid s2
          clear s2
          go_wp2_with fail
          go_roundw
          case rel => exact ⟨i + 1, by go_num, by omega, Hs2.out⟩
          case measure => simp [intOf]; omega
        · have hie : i = D.length := by omega
          subst hie
          rw [← inD_len D, List.take_length, inD_len] at hs
          have hcl := smp_close hs
          have Hcl := Lib.hid hcl
          have HO := Lib.hid hs.only
          clear hcl hs
          go_wp2_with fail
          refine Hcl.out.mono ?_
          rintro e w2 ⟨M, rv, rfl, hM, hp, hpw, s5, o5, hrv⟩
          have hMe := all_kept (D := inD D) (by intro hc; rw [← List.length_eq_zero_iff, inD_len] at hc; omega) (by rw [inD_len]; have := Hk.out; omega) hp hpw
          have hMl : M.length = D.length := by rw [hMe, List.length_map, offs_len, inD_len]
          obtain ⟨q, cap3, hrvf⟩ := hM.form
          rw [List.length_map, hMl] at hrvf
          subst hrvf
          have HM := Lib.hid (And.intro hM (And.intro hMe hMl))
          have O2 : Only [] w w2 := (o5.mono (S' := []) (by intro k hk hl; simp only [List.mem_singleton] at hk; omega))
          have HO2 := Lib.hid O2
          have tn : ((D.length : Int) != (D.length : Int)) = false := by simp
          clear hM hp hpw s5 o5 hrv hMe hMl O2 HO
          go_wp2_with fail
          go_loopw [10] (fun iv wr => ∃ i : Nat, iv = .int .i64 i ∧ i ≤ D.length ∧ Only [] w2 wr) (fun iv _ => D.length - (intOf iv).toNat)
          case atStart => exact ⟨0, rfl, Nat.zero_le _, Only.refl _ _⟩
          case round =>
            obtain ⟨i, rfl, hi, ow⟩ := hrel
            have ow0 := HO2.out.trans ow
            by_cases hil : i < D.length
            · obtain ⟨b, off, W, V, rfl, hb, hget, hW, hV, c0, c1⟩ := Hin.out.at ow0 hil
              obtain ⟨hM, hMe, hMl⟩ := HM.out
              have hMi : M[i]? = some ⟨i, W + 1, 1⟩ := by
                rw [hMe, List.getElem?_map, offs_get, inD_get hget]
                simp [lightK]
              have hMi2 : (M.map encK)[i]? = some (encK ⟨i, W + 1, 1⟩) := by rw [List.getElem?_map, hMi]; rfl
              obtain ⟨g2, off2, rfl, hr⟩ : ∃ g off, q = some ⟨g, off, none⟩ ∧ RowMem wr 33 3 (M.map encK) g off cap3 := by
                have hs2 := hM.only ow (by simp)
                generalize hV : Value.slice q D.length cap3 = Vs at hs2
                have hne : M.map encK ≠ [] := by intro hc; rw [hc] at hMi2; simp at hMi2
                generalize M.map encK = xs at hs2 hne
                cases hs2 with
                | nil => exact absurd rfl hne
                | @row _ g off cap2 hr =>
                  obtain ⟨h5, _, h7⟩ := Value.slice.inj hV
                  subst h7 h5
                  exact ⟨g, off, rfl, hr⟩
              have k0 : wr.cell? ⟨g2, off2 + i * 3, none⟩ = some (.int .i64 i) := hr.cell (f := 0) hMi2 rfl
              have k1 : wr.cell? ⟨g2, off2 + i * 3 + 1, none⟩ = some (.int .u64 ((W + 1 : Nat) : Int)) := hr.cell (f := 1) hMi2 rfl
              have k2 : wr.cell? ⟨g2, off2 + i * 3 + 2, none⟩ = some (.int .u64 1) := hr.cell (f := 2) hMi2 rfl
              have hg2 := hr.lt
              have cW : IntKind.u64.wrap ((W : Int) + 1) = ((W + 1 : Nat) : Int) := by rw [wrap_u64]; omega
              have Ow := Lib.hid ow
              clear hM hMe hMl hMi hMi2 hr hget ow0 ow
              go_wp2_with fail
              go_quiet (fail)
              go_wp2_with fail
              go_roundw
              case rel => exact ⟨i + 1, by go_num, by omega, Ow.out.drewN _⟩
              case measure => simp [intOf]; omega
            · have hie : i = D.length := by omega
              subst hie
              have Ow0 := Lib.hid ow0
              clear ow0 ow
              go_wp2_with fail
              refine (hK.out _).mono ?_
              rintro _ w3 ⟨rfl, o3⟩
              go_wp2_with fail
              go_ret
              exact ⟨rfl, Ow0.out.trans o3⟩

/-- .. as a row hands it in. -/
def OffersW (w : World) (a : Option Addr) (len : Nat) : Prop := ∃ D, D.length = len ∧ len ≤ maxLen ∧ OffersIn w a D

theorem all_top (a : Option Addr) (len cap : Nat) (a1 a2 : Int) (w : World) (w0 : OffersW w a len) (w1 : (Lit.int .u64 a1).wf = true) (w2 : (Lit.int .u8 a2).wf = true) :
    Calls Try.prog 7 #[.slice a len cap, .int .u64 a1, .int .u8 a2] w fun e w' => e = .returned (.bool true) ∧ Only [] w w' := by
  obtain ⟨D, rfl, hm, hD⟩ := w0
  obtain ⟨l1, h1⟩ := bounds_u64 w1
  obtain ⟨l2, h2⟩ := bounds_u8 w2
  obtain ⟨n1, rfl⟩ : ∃ n : Nat, a1 = n := ⟨a1.toNat, by omega⟩
  obtain ⟨n2, rfl⟩ : ∃ n : Nat, a2 = n := ⟨a2.toNat, by omega⟩
  exact law_all a cap n1 n2 D w hD hm (by omega) (by omega)

end Go.Proofs.Ytbboklmmnnedjaa
