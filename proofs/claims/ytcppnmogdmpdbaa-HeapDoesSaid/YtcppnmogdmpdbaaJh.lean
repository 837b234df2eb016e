/- HeapDoes: the law, walked. -/
import Derived.Test.YtcppnmogdmpdbaaJg
import Derived.Deep.DeepCutAuto
namespace Go.Proofs.Ytcppnmogdmpdbaa
open Go.RowKit Go.Mk Go.Hp Go.Proofs.Ytcppnmogdmpdbaa.PHeapDoes Go.Proofs.YtcppnmogdmpdbaaW.PrintWords
set_option linter.unusedVariables false
attribute [-go_sem] Builtin.append_

set_option maxRecDepth 100000 in
set_option maxHeartbeats 8000000 in
theorem heapdoes_walk (ms : Int) (a : Option Addr) (len cap : Nat) (b : Option Addr) (lenb capb : Nat) (now : Int) (w : World) (hms : 0 ≤ ms ∧ ms ≤ 255) (hd : DeedsIn w a len) (ht : TimersIn w b lenb) :
    Calls Try.prog 7 #[.int .u8 ms, .slice a len cap, .slice b lenb capb, .int .i64 now] w fun e w' => e = .returned (.bool true) ∧ Only [] w w' := by
  have HD := Lib.hid hd.cell
  have HT := Lib.hid ht.cell
  have hl1 := hd.top
  have hl2 := ht.top
  simp only [maxLen] at hl1 hl2
  clear hd ht
  have gA : (decide ((80 : Int) < len) = true) ∨ (decide ((80 : Int) < len) = false ∧ decide ((20 : Int) < lenb) = true) ∨ (decide ((80 : Int) < len) = false ∧ decide ((20 : Int) < lenb) = false ∧ (len : Int) ≤ 80 ∧ (lenb : Int) ≤ 20) := by
    by_cases h1 : (80 : Int) < len
    · exact .inl (by simp; omega)
    · by_cases h2 : (20 : Int) < lenb
      · exact .inr (.inl ⟨by simp; omega, by simp; omega⟩)
      · exact .inr (.inr ⟨by simp; omega, by simp; omega, by omega, by omega⟩)
  rcases gA with g1 | ⟨g1, g2⟩ | ⟨g1, g2, hb1, hb2⟩
  · clear hl1 hl2 HD HT
    go_enter Try.func7, Try.ntmps7
    go_wp2_with fail
    refine (known10 _).mono ?_
    rintro e w1 ⟨rfl, o1⟩
    go_wp2_with fail
    go_ret
    exact ⟨rfl, o1⟩
  · clear hl1 hl2 HD HT
    go_enter Try.func7, Try.ntmps7
    go_wp2_with fail
    refine (known10 _).mono ?_
    rintro e w1 ⟨rfl, o1⟩
    go_wp2_with fail
    go_ret
    exact ⟨rfl, o1⟩
  · clear hl1 hl2
    obtain ⟨m, hm⟩ : ∃ m : Nat, ms % 20 = m := ⟨(ms % 20).toNat, by omega⟩
    have hm20 : (m : Int) < 20 := by omega
    have hm0 : (0 : Int) ≤ m := by omega
    have t20 : ms.tmod 20 = m := by rw [Int.tmod_eq_emod_of_nonneg hms.1, hm]
    obtain ⟨hms0, hms1⟩ := hms
    clear hm
    go_enter Try.func7, Try.ntmps7
    go_wp2_with fail
    refine (known10 _).mono ?_
    rintro e w1 ⟨rfl, o1⟩
    go_wp2_with fail
    refine (heap_new (1 + (m : Int)) (by omega) (by omega)).mono ?_
    rintro e w2 ⟨hp, F, rfl, h2, hF, o2⟩
    have H2 := Lib.hid h2
    have O1 := Lib.hid o1
    have O2 := Lib.hid o2
    have HF := Lib.hid hF
    clear h2 o1 o2 hF
    go_wp2_with fail
    refine (ref_New (1 + (m : Int)) w2 (by omega) (by omega)).mono ?_
    rintro e w3 ⟨v0, rfl, r3, o3⟩
    obtain ⟨A0, c0, rfl⟩ := Kd.R_slice r3.2
    have o4 : Only [] w3 (w3.alloc (.cells #[.slice A0 (refL []).length c0, .int .i64 (1 + (m : Int))] 44)) := (Only.refl _ _).alloc _
    have hLI : LoopI w (w3.alloc (.cells #[.slice A0 (refL []).length c0, .int .i64 (1 + (m : Int))] 44)) hp w3.heap.size (1 + (m : Int)) := by
      have hs1 := O1.out.size
      have hs2 := O2.out.size
      have hs3 := o3.size
      have hr := Kd.R_base r3.2
      have hrl := r3.lt
      have hFl := H2.out.lts
      have hb3 : Below w.heap.size w w3 := ((O1.out.trans O2.out).trans o3).below (Nat.le_refl _) (by simp)
      refine ⟨F, _, [], ⟨(H2.out.only o3 (by simp)).only o4 (by simp), RefIs.only (F := []) (w := w3) ⟨hb3, Kd.R_lower r3.2 (by omega)⟩ o4 (by simp) (by simp), fun k hk hm => ?_, fun k hk => ?_⟩, heap_alloc_new _ _, fun hk => ?_, by omega, ((O1.out.trans O2.out).trans o3).trans o4⟩
      · have := hr k hk; have := hFl k hm; omega
      · have := HF.out k hk; omega
      · rcases owned_of hk with h1 | h1
        · have := hFl _ h1; omega
        · have := hrl _ h1; omega
    have HLI := Lib.hid hLI
    clear hLI o3 o4 r3
    go_wp2_with fail
    generalize w3.alloc (.cells #[.slice A0 (refL []).length c0, .int .i64 (1 + (m : Int))] 44) = w4 at *
    generalize hrb : w3.heap.size = rb at *
    have hrbw : rb < w4.heap.size := by obtain ⟨_, _, _, _, h, _⟩ := HLI.out; exact lt_of_blk h
    clear H2 O1 O2 HF hrb
    have hlb : (lenb : Int) ≤ 9223372036854775807 := by omega
    go_loopw [12, 13, 14] (fun iv _ _ wr => ∃ i : Nat, iv = .int .i64 i ∧ i ≤ lenb ∧ LoopI w wr hp rb (1 + (m : Int))) (fun iv _ _ _ => lenb - (intOf iv).toNat)
    case atStart => exact ⟨0, rfl, by omega, HLI.out⟩
    case round =>
      clear HLI hrbw
      obtain ⟨i, rfl, hi, F, v, S, hB, hr, hn, hw, ho⟩ := hrel
      by_cases hlt : i < lenb
      · obtain ⟨b, off, rfl, hbw, hcell⟩ := HT.out (by omega)
        obtain ⟨p, q, kp, kq⟩ := hcell i hlt
        have kp := ho.cell kp (by simp)
        have kq := ho.cell kq (by simp)
        have g3 : decide (i < lenb) = true := by simp; omega
        have r0 : wr.cell? ⟨rb, 0, none⟩ = some v := by rw [cell_of_blk hr]; rfl
        have r1 : wr.cell? ⟨rb, 1, none⟩ = some (.int .i64 (1 + (m : Int))) := by rw [cell_of_blk hr]; rfl
        have hbF : b ∉ owned F v := fun hm => by have := hB.base b hm; omega
        have hrl := lt_of_blk hr
        have hbwr : b < wr.heap.size := ho.lt hbw
        have hne1 : b ≠ wr.heap.size := by omega
        have hne2 : rb ≠ wr.heap.size := by omega
        have C1 : Hid (∀ W, Only [] wr W → Calls Try.prog 24 #[.agg #[v, .int .i64 (1 + (m : Int))], .agg #[.int .i64 p, .int .i64 q]] W fun e w1 => ∃ A0 c0, e = .returned (.tuple #[.agg #[.slice A0 (refL (pushS (p, q) S (1 + (m : Int)))).length c0, .int .i64 (1 + (m : Int))], .int .i64 (pushTold (p, q) S (1 + (m : Int)))]) ∧
            RefIs w w1 (.slice A0 (refL (pushS (p, q) S (1 + (m : Int)))).length c0) (pushS (p, q) S (1 + (m : Int))) ∧ Only v.ownBlock.toList W w1 ∧ (∀ k, (Value.slice A0 (refL (pushS (p, q) S (1 + (m : Int)))).length c0).ownBlock = some k → v.ownBlock = some k ∨ W.heap.size ≤ k)) := fun W hW => by
          refine (ref_Push (hB.ref.only hW (by simp) (by simp)) (1 + (m : Int)) (p, q) hB.len).mono ?_
          rintro e w1 ⟨v0, rfl, r1, o1, hv0⟩
          obtain ⟨A0, c0, rfl⟩ := Kd.R_slice r1.2
          exact ⟨A0, c0, rfl, r1, o1, hv0⟩
        have A : Aside (_ ∧ _ ∧ _ ∧ _ ∧ _ ∧ _ ∧ _ ∧ _) := ⟨hB, hr, hn, hw, ho, hbw, hcell, hbF⟩
        have hwwr : Hid (w.heap.size ≤ wr.heap.size) := ho.size
        have hvs : Hid (∀ k, v.ownBlock = some k → k < wr.heap.size) := hB.ref.lt
        clear hB hr hn hw ho hcell hbF
        go_upto_region 10 with fail
        go_cut [13, 14] (fun s13 s14 wx => MidR w wr wx v (pushS (p, q) S (1 + (m : Int))) (1 + (m : Int)) (pushTold (p, q) S (1 + (m : Int))) s13 s14)
        case first =>
          go_region_with (go_at_call 24; go_must (refine (C1.out _ ?_).mono ?_; first
            | (exact (Only.refl _ _).drew; rintro e w1 ⟨A0, c0, rfl, r1, o1, hv0⟩; have R1 := Lib.hid (And.intro r1 (And.intro o1 hv0)); clear r1 o1 hv0)
            | (exact ((Only.refl _ _).alloc _).drew; rintro e w1 ⟨A0, c0, rfl, r1, o1, hv0⟩; have z1 := o1.blk (heap_alloc_new wr (.cells #[.slice none 0 0, .int .i64 0] 44)) (fun hm => absurd (hvs.out _ (by simpa using hm)) (Nat.lt_irrefl _)); (have z2 : ∀ q, w1.frozen? ⟨wr.heap.size, q, none⟩ = false := fun q => frozen_of_blk z1); (have z3 : w1.cell? ⟨wr.heap.size, 0, none⟩ = some (.slice none 0 0) := by rw [cell_of_blk z1]; rfl); (have z4 : w1.cell? ⟨wr.heap.size, 1, none⟩ = some (.int .i64 0) := by rw [cell_of_blk z1]; rfl); have Z1 := Lib.hid z1; have R1 := Lib.hid (And.intro r1 (And.intro o1 hv0)); clear r1 o1 hv0 z1)))
          all_goals (go_wp2_with fail; go_meet)
          all_goals first
            | exact MidR.a R1.out.1 R1.out.2.1 R1.out.2.2
            | exact MidR.b hvs.out hwwr.out Z1.out R1.out.1 R1.out.2.1 R1.out.2.2
        case rest =>
          obtain ⟨b1, A0, c0, rfl, rfl, hb1, hx9, r1, o1, hv0⟩ := hcut
          obtain ⟨hB, hr, hn, hw, ho, hbw, hcell, hbF⟩ := A.out
          have hvb : ∀ k, k < wr.heap.size → k ∉ owned F v → k ∉ v.ownBlock.toList := fun k _ h2 hm => h2 (owned_v (by simpa using hm))
          have kp1 := o1.cell kp (hvb _ hbwr hbF)
          have kq1 := o1.cell kq (hvb _ hbwr hbF)
          have hr1 := o1.blk hr (hvb _ hrl hn)
          have hlF := hB.obj.lts
          have hFn : ∀ k, k ∈ F → k ≠ b1 ∧ k ≠ rb ∧ k ≠ b := fun k hk => ⟨by have := hlF k hk; omega, fun e => hn (e ▸ owned_F hk), fun e => hbF (e ▸ owned_F hk)⟩
          have R1 := Lib.hid (And.intro r1 (And.intro o1 hv0))
          have x0 : wc.cell? ⟨b1, 0, none⟩ = some (.slice A0 (refL (pushS (p, q) S (1 + (m : Int)))).length c0) := by rw [cell_of_blk hx9]; rfl
          have x1 : wc.cell? ⟨b1, 1, none⟩ = some (.int .i64 (1 + (m : Int))) := by rw [cell_of_blk hx9]; rfl
          have C2 := Lib.hid (heap_Push_any (hB.obj.only o1 (fun k hk hm => hB.apart k (by simpa using hm) hk)) (p, q))
          have Hx9 := Lib.hid hx9
          have Hr1 := Lib.hid hr1
          have HFn := Lib.hid hFn
          obtain ⟨pt0, pt1⟩ := pushTold_small (p, q) S (1 + (m : Int))
          have hptn : (pushTold (p, q) S (1 + (m : Int)) != pushTold (p, q) S (1 + (m : Int))) = false := by simp
          clear hx9 hr1 r1 o1 hv0 hB hr hn hw ho hbw hcell hbF hlF hFn hvb
          go_wp2_with fail
          refine C2.out.mono ?_
          rintro e w3 ⟨rfl, F3, h3, o3, hF3⟩
          obtain ⟨hB, hr, hn, hw, ho, hbw, hcell, hbF⟩ := A.out
          have hbb : b1 ∉ F := fun hm => (HFn.out _ hm).1 rfl
          have hrF : rb ∉ F := fun hm => (HFn.out _ hm).2.1 rfl
          have x2 := o3.cell x0 hbb
          have x3 := o3.cell x1 hbb
          have y1 := o3.blk Hr1.out hrF
          have y2 : w3.cell? ⟨rb, 0, none⟩ = some v := by rw [cell_of_blk y1]; rfl
          have y3 : w3.cell? ⟨rb, 1, none⟩ = some (.int .i64 (1 + (m : Int))) := by rw [cell_of_blk y1]; rfl
          have y4 : ∀ q, w3.frozen? ⟨rb, q, none⟩ = false := fun q => frozen_of_blk y1
          have HN : Hid (LoopI w ((w3.setCell ⟨rb, 0, none⟩ (.slice A0 (refL (pushS (p, q) S (1 + (m : Int)))).length c0)).setCell ⟨rb, 1, none⟩ (.int .i64 (1 + (m : Int)))) hp rb (1 + (m : Int))) :=
            LoopI.next hB hr hn hw ho (After.push hB R1.out.1 R1.out.2.1 R1.out.2.2 (Only.refl _ _) h3 o3 hF3) (Only.refl _ _)
          clear hB hr hn hw ho hbw hcell hbF hbb hrF y1 h3 o3 hF3 C2 x0 x1 kp kq kp1 kq1
          go_wp2_with fail
          exact ⟨⟨i + 1, by go_num, by omega, HN.out⟩, by simp [intOf]; omega⟩
      · have g3 : decide (i < lenb) = false := by simp; omega
        have H1 : Hid (LoopI w wr hp rb (1 + (m : Int))) := ⟨F, v, S, hB, hr, hn, hw, ho⟩
        clear hB hr hn hw ho
        go_wp2_with fail
        have hla : (len : Int) ≤ 9223372036854775807 := by omega
        go_loopw [15, 16, 17, 18, 19, 20] (fun iv _ _ _ _ _ wq => ∃ j : Nat, iv = .int .i64 j ∧ j ≤ len ∧ LoopI w wq hp rb (1 + (m : Int))) (fun iv _ _ _ _ _ _ => len - (intOf iv).toNat)
        case atStart => exact ⟨0, rfl, by omega, H1.out⟩
        case round =>
          clear H1
          obtain ⟨j, rfl, hj, F, v, S, hB, hr, hn, hw, ho⟩ := hrel
          by_cases hjl : j < len
          · obtain ⟨b, off, rfl, hbw, hcell⟩ := HD.out (by omega)
            obtain ⟨x, y, z, hx, hy, hz, kx, ky, kz⟩ := hcell j hjl
            have kx := ho.cell kx (by simp)
            have ky := ho.cell ky (by simp)
            have kz := ho.cell kz (by simp)
            have g4 : decide (j < len) = true := by simp; omega
            have r0 : wr.cell? ⟨rb, 0, none⟩ = some v := by rw [cell_of_blk hr]; rfl
            have r1 : wr.cell? ⟨rb, 1, none⟩ = some (.int .i64 (1 + (m : Int))) := by rw [cell_of_blk hr]; rfl
            have C1 : Hid (Calls Try.prog 25 #[.pointer (some ⟨hp, 0, none⟩), .agg #[v, .int .i64 (1 + (m : Int))], .agg #[.int .u8 x, .int .u8 y, .int .u8 z]] wr.drew fun e w' => ∃ A n c, e = .returned (.tuple #[.agg #[.slice A n c, .int .i64 (1 + (m : Int))], .bool true]) ∧ After w wr w' hp F (1 + (m : Int)) v (.slice A n c)) :=
              (does_walk (hB.only (Only.drew (Only.refl [] wr)) (by simp)) x y z hx hy hz).mono fun e w' ⟨v', he, ha⟩ => by
                obtain ⟨A, n, c, rfl⟩ := ha.slice
                exact ⟨A, n, c, he, ha.undrew⟩
            have A : Aside (_ ∧ _ ∧ _ ∧ _ ∧ _) := ⟨hB, hr, hn, hw, ho⟩
            clear hB hr hn hw ho hcell hbw hx hy hz
            go_upto_region 18 with fail
            go_cut [16] (fun s16 wx => s16 = .bool true ∧ LoopI w wx hp rb (1 + (m : Int)))
            case first =>
              go_region_with (go_at_call 25; go_must (refine C1.out.mono ?_; rintro e w3 ⟨A1, n1, c1, rfl, ha⟩; have y1 := ha.only.blk A.out.2.1 A.out.2.2.1; (have y2 : w3.cell? ⟨rb, 0, none⟩ = some v := by rw [cell_of_blk y1]; rfl); (have y3 : w3.cell? ⟨rb, 1, none⟩ = some (.int .i64 (1 + (m : Int))) := by rw [cell_of_blk y1]; rfl); (have y4 : ∀ q, w3.frozen? ⟨rb, q, none⟩ = false := fun q => frozen_of_blk y1); have HA := Lib.hid ha; clear ha y1))
              all_goals (go_wp2_with fail; go_meet)
              all_goals (obtain ⟨hB, hr, hn, hw, ho⟩ := A.out; exact ⟨rfl, LoopI.next hB hr hn hw ho HA.out (Only.refl _ _)⟩)
            case rest =>
              obtain ⟨rfl, F2, v2, S2, hB, hr, hn, hw, ho⟩ := hcut
              obtain ⟨⟨p, q, bb⟩, hpqb⟩ : ∃ r, firstT S2 = r := ⟨_, rfl⟩
              obtain ⟨A2, c2, rfl⟩ := Kd.R_slice hB.ref.2
              have HC2 := Lib.hid (heap_First' hB.obj hpqb)
              have hrl := lt_of_blk hr
              have s0 : wc.cell? ⟨rb, 0, none⟩ = some (.slice A2 (refL S2).length c2) := by rw [cell_of_blk hr]; rfl
              have s1 : wc.cell? ⟨rb, 1, none⟩ = some (.int .i64 (1 + (m : Int))) := by rw [cell_of_blk hr]; rfl
              have Hpq := Lib.hid hpqb
              have AA : Aside (_ ∧ _ ∧ _ ∧ _ ∧ _) := ⟨hB, hr, hn, hw, ho⟩
              clear hpqb hB hr hn hw ho C1 A r0 r1 kx ky kz
              go_wp2_with fail
              refine HC2.out.mono ?_
              rintro e w5 ⟨rfl, o5⟩
              have s0 := o5.cell s0 (by simp)
              have s1 := o5.cell s1 (by simp)
              have hrl5 := o5.lt hrl
              have O5 := Lib.hid o5
              clear o5
              go_wp2_with fail
              have o6 : Only [] w5 (w5.alloc (.cells #[.int .i64 p, .int .i64 q] 30)) := (Only.refl _ _).alloc _
              have z6 := heap_alloc_new w5 (.cells #[.int .i64 p, .int .i64 q] 30)
              have O6 := Lib.hid (O5.out.trans o6)
              have s0 := o6.cell s0 (by simp)
              have s1 := o6.cell s1 (by simp)
              have hrl6 := o6.lt hrl5
              clear o6
              generalize w5.alloc (.cells #[.int .i64 p, .int .i64 q] 30) = w6 at *
              have C3 := ref_First (AA.out.1.only O6.out (by simp)).ref (1 + (m : Int))
              rw [Hpq.out] at C3
              refine C3.mono ?_
              clear C3
              rintro e w7 ⟨rfl, o7⟩
              have s0 := o7.cell s0 (by simp)
              have s1 := o7.cell s1 (by simp)
              have hrl7 := o7.lt hrl6
              have z7 := o7.blk z6 (by simp)
              have O7 := Lib.hid (O6.out.trans o7)
              clear o7 z6
              generalize hb5 : w5.heap.size = b5 at *
              have o8 : Only [] w7 (w7.alloc (.cells #[.int .i64 p, .int .i64 q] 30)) := (Only.refl _ _).alloc _
              have z8 := heap_alloc_new w7 (.cells #[.int .i64 p, .int .i64 q] 30)
              have z7 := o8.blk z7 (by simp)
              have O8 := Lib.hid (O7.out.trans o8)
              have s0 := o8.cell s0 (by simp)
              have s1 := o8.cell s1 (by simp)
              have Z := Lib.hid (And.intro z7 z8)
              clear o8 z7 z8
              go_wp2_with fail
              generalize w7.alloc (.cells #[.int .i64 p, .int .i64 q] 30) = w8 at *
              generalize hb7 : w7.heap.size = b7 at *
              obtain ⟨z7, z8⟩ := Z.out
              have k1 : w8.cell? ⟨b5, 0, none⟩ = some (.int .i64 p) := by rw [cell_of_blk z7]; rfl
              have k2 : w8.cell? ⟨b5, 1, none⟩ = some (.int .i64 q) := by rw [cell_of_blk z7]; rfl
              have k3 : w8.cell? ⟨b7, 0, none⟩ = some (.int .i64 p) := by rw [cell_of_blk z8]; rfl
              have k4 : w8.cell? ⟨b7, 1, none⟩ = some (.int .i64 q) := by rw [cell_of_blk z8]; rfl
              have hg := guard_timer
              have he := neq_timer
              have e4 : (!(p == p && q == q)) = false := by simp
              have e5 : (bb != bb) = false := by simp
              have e6 : ((S2.length : Int) != ((refL S2).length : Int)) = false := by rw [refL_len]; simp
              have HL : Hid (∀ n, Calls Try.prog 19 #[.pointer (some ⟨hp, 0, none⟩)] (w8.drewN n) fun e w' => e = .returned (.int .i64 S2.length) ∧ w' = w8.drewN n) := fun n =>
                heap_len (AA.out.1.only (O8.out.drewN n) (by simp)).obj
              clear z7 z8 Z hb5 hb7
              go_quiet (first | (go_at_call 19; exact Calls.quiet_of_same (HL.out _)))
              all_goals go_wp2_with fail
              exact ⟨⟨j + 1, by go_num, by omega, LoopI.of AA.out.1 AA.out.2.1 AA.out.2.2.1 AA.out.2.2.2.1 AA.out.2.2.2.2 (O8.out.drewN _)⟩, by simp [intOf]; omega⟩
          · have g4 : decide (j < len) = false := decide_eq_false hjl
            have r0 : wr.cell? ⟨rb, 0, none⟩ = some v := by rw [cell_of_blk hr]; rfl
            have r1 : wr.cell? ⟨rb, 1, none⟩ = some (.int .i64 (1 + (m : Int))) := by rw [cell_of_blk hr]; rfl
            have C1 := Lib.hid (ref_Due hB.ref (1 + (m : Int)) now hB.len hB.obj.nos)
            have HB := Lib.hid hB
            have Ho := Lib.hid ho
            clear hB hr hn hw ho
            go_wp2_with fail
            refine C1.out.mono ?_
            rintro e w1 ⟨v0, v1, rfl, r1, rv1, o1, hv0, hv1⟩
            obtain ⟨A0, c0, rfl⟩ := Kd.R_slice r1.2
            obtain ⟨A1, c1, rfl⟩ := Kd.R_slice rv1.2
            have Hobj1 := HB.out.obj.only o1 (fun b hb hm => HB.out.apart b (by simpa using hm) hb)
            have o2 : Only [] w1 (w1.alloc (.cells #[.slice A0 (refL (restDue now S)).length c0, .int .i64 (1 + (m : Int))] 44)) := (Only.refl _ _).alloc _
            have C2 := Lib.hid (heap_Due (Hobj1.only o2 (by simp)) now)
            have RV := Lib.hid (And.intro rv1 hv1)
            have O1 := Lib.hid o1
            have O2 := Lib.hid o2
            clear r1 rv1 o1 hv0 hv1 Hobj1 o2 C1
            go_wp2_with fail
            refine C2.out.mono ?_
            rintro e w3 ⟨ov, rfl, hsl, h3, o3, _⟩
            have CS : Hid (Calls Try.prog 28 #[ov, .slice A1 (refL (takeDue now S)).length c1] w3 fun e w' => e = .returned (.bool true) ∧ Only [] w3 w') := by
              obtain ⟨rv, hv⟩ := RV.out
              have hlts := HB.out.obj.lts
              refine ref_Same ((rv.only O2.out (by simp) (by simp)).only o3 (fun k hk hm => ?_) (fun k hk => ?_)) hsl (Nat.le_trans (List.Sublist.length_le (List.takeWhile_sublist _)) HB.out.len)
              · rcases hv k hk with h1 | h1
                · exact HB.out.apart k h1 hm
                · have := hlts k hm; omega
              · exact HB.out.base k (owned_F hk)
            have O3 : Hid (Only [] w w3) := ((Ho.out.trans' O1.out (fun x hx hlt => absurd (HB.out.ref.base x (by simpa using hx)) (by omega))).trans O2.out).trans' o3 (fun x hx hlt => absurd (HB.out.base x (owned_F hx)) (by omega))
            clear hsl h3 o3 C2
            go_wp2_with fail
            refine CS.out.mono ?_
            rintro e w4 ⟨rfl, o4⟩
            go_wp2_with fail
            go_ret
            exact ⟨rfl, O3.out.trans o4⟩
end Go.Proofs.Ytcppnmogdmpdbaa
