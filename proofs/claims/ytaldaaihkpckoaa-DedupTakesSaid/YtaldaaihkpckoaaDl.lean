/- DedupTakes: the law, walked. -/
import Derived.Test.YtaldaaihkpckoaaDk
import Derived.Deep.DeepCutAuto
namespace Go.Proofs.Ytaldaaihkpckoaa
open Go.RowKit Go.Mk Go.Dd Go.Proofs.Ytaldaaihkpckoaa.PDedupTakes Go.Proofs.YtaldaaihkpckoaaW.PrintWords Go.Proofs.YtaldaaihkpckoaaW.PrintLast Go.Proofs.YtaldaaihkpckoaaW.PrintMore
set_option linter.unusedVariables false

theorem RefD.lower {w w1 w2 : World} {v : Value} {L : List Int} (h : RefD w1 w2 v L) (h1 : Only [] w w1) (h2 : Only [] w w2) : RefD w w2 v L :=
  ⟨h2.below (Nat.le_refl _) (by simp), Kd.R_mono (Kd.R_lower h.2 h1.size) (fun _ h => h)⟩

/-- The numbers that came are n and A; the reference's are L: they lie at c8. -/
structure MidS (w wr : World) (sp c8 m n : Nat) (A : List Int) (v : Value) (L : List Int) : Prop where
  own : Own w (c8 :: v.ownBlock.toList) wr sp n A m
  ref : RefD w wr v L
  b0 : wr.cell? ⟨c8, 0, none⟩ = some v
  b1 : wr.cell? ⟨c8, 1, none⟩ = some (.int .i64 m)
  fz : ∀ i, wr.frozen? ⟨c8, i, none⟩ = false
  ge : w.heap.size ≤ c8
  ne : v.ownBlock ≠ some c8
/-- The two know the same. -/
abbrev Sim (w wr : World) (sp c8 m n : Nat) (A : List Int) (v : Value) : Prop := MidS w wr sp c8 m n A v (RL n A)

theorem MidS.only {w wr wr' : World} {sp c8 m n : Nat} {A L : List Int} {v : Value} (h : MidS w wr sp c8 m n A v L) (ho : Only [] wr wr') : MidS w wr' sp c8 m n A v L :=
  ⟨h.own.only ho (by simp) (by simp), h.ref.only ho (by simp) (by simp), ho.cell h.b0 (by simp), ho.cell h.b1 (by simp), fun i => (World.frozen?_of_block (a := ⟨c8, i, none⟩) (ho.block c8 (lt_of_cell h.b0) (by simp))).trans (h.fz i), h.ge, h.ne⟩

theorem MidS.put {w wr w4 : World} {sp c8 m n : Nat} {A L L' : List Int} {v v' : Value} (h : MidS w wr sp c8 m n A v L) (o4 : Only v.ownBlock.toList wr w4) (hr : RefD w w4 v' L')
    (hv : ∀ k, v'.ownBlock = some k → v.ownBlock = some k ∨ wr.heap.size ≤ k) (o : Obj) : MidS w (((w4.setCell ⟨c8, 0, none⟩ v').setCell ⟨c8, 1, none⟩ (.int .i64 m)).alloc o) sp c8 m n A v' L' := by
  have hn : c8 ∉ v.ownBlock.toList := by have := h.ne; simpa using this
  have hc := lt_of_cell h.b0
  have oS : Only [c8] w4 (((w4.setCell ⟨c8, 0, none⟩ v').setCell ⟨c8, 1, none⟩ (.int .i64 m)).alloc o) := (((Only.refl _ _).setCell (.inl (by simp)) _).setCell (.inl (by simp)) _).alloc _
  have hne : v'.ownBlock ≠ some c8 := fun he => by
    rcases hv c8 he with h1 | h1
    · exact h.ne h1
    · omega
  have oT : Only (c8 :: v.ownBlock.toList) wr (((w4.setCell ⟨c8, 0, none⟩ v').setCell ⟨c8, 1, none⟩ (.int .i64 m)).alloc o) :=
    (o4.mono (fun k hk _ => List.mem_cons_of_mem _ hk)).trans (oS.mono (fun k hk _ => by rw [List.mem_singleton] at hk; rw [hk]; simp))
  have hsz := oT.size
  refine ⟨h.own.swap oT (fun b hb => hb) (fun b hb => ?_) (fun x hx => ?_) (fun x hx => ?_), hr.only oS (fun k hk hm => hne (by rw [List.mem_singleton] at hm; rw [← hm]; exact hk)) (by simpa using h.ge), ?_, ?_, ?_, h.ge, hne⟩
  · rcases List.mem_cons.1 hb with rfl | hb
    · exact h.ge
    · exact h.ref.base b (by simpa using hb)
  · rcases List.mem_cons.1 hx with rfl | hx
    · exact .inl (by simp)
    · rcases hv x (by simpa using hx) with h1 | h1
      · exact .inl (List.mem_cons_of_mem _ (by simpa using h1))
      · exact .inr h1
  · rcases List.mem_cons.1 hx with rfl | hx
    · omega
    · exact oS.lt (hr.lt x (by simpa using hx))
  · refine cell_alloc _ ?_
    rw [World.cell?_setCell_other _ _ _ _ (by simp)]
    exact World.cell?_setCell_same _ _ _ (o4.cell h.b0 hn)
  · have q1 : (w4.setCell ⟨c8, 0, none⟩ v').cell? ⟨c8, 1, none⟩ = some (.int .i64 m) := by
      rw [World.cell?_setCell_other _ _ _ _ (by simp)]; exact o4.cell h.b1 hn
    exact cell_alloc _ (World.cell?_setCell_same _ _ _ q1)
  · intro i
    rw [frozen_alloc' _ (by have h8 := o4.lt hc; simpa [World.setCell] using h8), World.frozen?_setCell, World.frozen?_setCell]
    exact (World.frozen?_of_block (a := ⟨c8, i, none⟩) (o4.block c8 hc hn)).trans (h.fz i)

/-- Behind both Takes the two know the same again. -/
theorem MidS.took {w wr w' : World} {sp c8 m n n' : Nat} {A A' L : List Int} {v : Value} (h : MidS w wr sp c8 m n A v L) (ho : Own w (c8 :: v.ownBlock.toList) w' sp n' A' m) (hk : ∀ x ∈ c8 :: v.ownBlock.toList, w'.heap[x]? = wr.heap[x]?) : MidS w w' sp c8 m n' A' v L :=
  ⟨ho, h.ref.keep (ho.out.below (Nat.le_refl _) (by simp)) (fun k hk' => hk k (List.mem_cons_of_mem _ (by simpa using hk'))), (World.cell?_of_block (a := ⟨c8, 0, none⟩) (hk c8 (by simp))).trans h.b0, (World.cell?_of_block (a := ⟨c8, 1, none⟩) (hk c8 (by simp))).trans h.b1,
   fun i => (World.frozen?_of_block (a := ⟨c8, i, none⟩) (hk c8 (by simp))).trans (h.fz i), h.ge, h.ne⟩

set_option maxRecDepth 100000 in
set_option maxHeartbeats 8000000 in
theorem takes_walk (a0 : Int) (a1 : Option Addr) (len1 cap1 : Nat) (z1 : List Int) (a2 : Option Addr) (len2 cap2 : Nat) (z2 : List Int) (w : World) (w0 : (Lit.int .u8 a0).wf = true) (h1 : InRow .u8 w a1 len1 cap1 z1) (h2 : InRow .i64 w a2 len2 cap2 z2) :
    Calls Try.prog 4 #[.int .u8 a0, .slice a1 len1 cap1, .slice a2 len2 cap2] w fun e w' => e = .returned (.bool true) ∧ Only [] w w' := by
  obtain ⟨h00, h01⟩ := bounds_u8 w0
  obtain ⟨hl1, hc1⟩ := h1.cells
  obtain ⟨hl2, hc2⟩ := h2.cells
  have HC1 := Lib.hid hc1
  have HC2 := Lib.hid hc2
  obtain ⟨m, hm⟩ : ∃ m : Nat, a0 % 12 = m := ⟨(a0 % 12).toNat, by omega⟩
  have hm12 : (m : Int) < 12 := by omega
  have hm0 : (0 : Int) ≤ m := by omega
  have hlm1 : (len1 : Int) ≤ 9223372036854775807 := by simp only [maxLen] at hl1; omega
  have hlm2 : (len2 : Int) ≤ 9223372036854775807 := by simp only [maxLen] at hl2; omega
  have htm : a0.tmod 12 = m := by rw [Int.tmod_eq_emod_of_nonneg h00]; exact hm
  have hm1 : m ≤ 1000 := by omega
  clear hc1 hc2 h1 h2 hl1 hl2 w0 hm h01
  by_cases h80 : 80 < len1
  · have g1 : decide (80 < (len1 : Int)) = true := decide_eq_true (by omega)
    go_enter Try.func4, Try.ntmps4
    go_wp2_with fail
    refine (known18 _).mono ?_
    rintro e w2 ⟨rfl, o2⟩
    have H2 := Lib.hid o2
    clear o2
    go_wp2_with fail
    go_ret
    exact ⟨rfl, H2.out⟩
  have g1 : decide (80 < (len1 : Int)) = false := decide_eq_false (by omega)
  go_enter Try.func4, Try.ntmps4
  go_wp2_with fail
  refine (known18 _).mono ?_
  rintro e w1 ⟨rfl, o1⟩
  have O1 := Lib.hid o1
  clear o1
  go_wp2_with fail
  refine (own_new m hm1 w1).mono ?_
  rintro e w2 ⟨sp, rfl, k2⟩
  have H2 := Lib.hid k2
  clear k2
  go_wp2_with fail
  refine (ref_New m hm1 w2).mono ?_
  rintro e w3 ⟨v, rfl, hr, o3⟩
  obtain ⟨p, c, rfl⟩ := hr.slice
  have Hr := Lib.hid hr
  have O3 := Lib.hid o3
  clear hr o3
  have hs3 : sp < w3.heap.size := by obtain ⟨F, k1, k2, k3, k4⟩ := H2.out; exact O3.out.lt (k1.lts sp (by obtain ⟨sv, _, hF, _⟩ := k1; rw [hF]; simp))
  go_wp2_with fail
  obtain ⟨c8, hc8⟩ : ∃ c8, w3.heap.size = c8 := ⟨_, rfl⟩
  rw [hc8]
  have Hc8 := Lib.hid hc8
  clear hc8
  go_loopw [10, 11, 12, 13] (fun iv _ _ _ wr => ∃ (i n : Nat) (A : List Int) (v : Value), iv = .int .i64 i ∧ i ≤ len1 ∧ Sim w wr sp c8 m n A v ∧ n + A.length ≤ i) (fun iv _ _ _ _ => len1 - (intOf iv).toNat)
  case atStart =>
    have hc8 := Hc8.out
    have o13 : Only [] w w3 := H2.out.out.trans' O3.out (by simp) |> fun h => (O1.out.trans' h (by simp))
    have oa : Only [] w3 (w3.alloc (.cells #[.slice p 0 c, .int .i64 m] 32)) := (Only.refl _ _).alloc _
    have hr := (Hr.out.lower (O1.out.trans' H2.out.out (by simp)) o13)
    have hb : ∀ k, (Value.slice p 0 c).ownBlock = some k → k < w3.heap.size := hr.lt
    have hO : Own w [] w2 sp 0 [] m := by
      obtain ⟨F, k1, k2, k3, k4⟩ := H2.out
      exact ⟨F, k1, O1.out.trans' k2 (by simp), fun b hb => ⟨Nat.le_trans O1.out.size (k3 b hb).1, by simp⟩, by simp⟩
    have hbase := Hr.out.base
    refine ⟨0, 0, [], .slice p 0 c, rfl, by omega, ⟨?_, hr.only oa (by simp) (by simp), ?_, ?_, ?_, ?_, ?_⟩, by simp⟩
    · refine hO.swap (O3.out.trans oa) (by simp) (by simp) (fun x hx => .inr ?_) (fun x hx => ?_)
      · rcases List.mem_cons.1 hx with rfl | hx
        · rw [← hc8]; exact O3.out.size
        · exact hbase x (by simpa using hx)
      · rcases List.mem_cons.1 hx with rfl | hx
        · rw [← hc8]; simp
        · have := hb x (by simpa using hx); simp; omega
    · rw [← hc8, cell_of_blk (heap_alloc_new w3 _)]; rfl
    · rw [← hc8, cell_of_blk (heap_alloc_new w3 _)]; rfl
    · intro i; rw [← hc8]; exact frozen_of_blk (heap_alloc_new w3 _)
    · rw [← hc8]; exact o13.size
    · intro he; have := hb c8 he; omega
  case round =>
    obtain ⟨i, n, A, v, rfl, hi, hS, hs⟩ := hrel
    obtain ⟨p', c', hv⟩ := hS.ref.slice
    subst hv
    have hok := hS.own.ok
    have b0 := hS.b0
    have b1 := hS.b1
    have f8 := hS.fz
    have hc8w := lt_of_cell b0
    have HS := Lib.hid hS
    have Hs := Lib.hid hs
    have Hok := Lib.hid hok
    clear hS hs hok H2 Hr O3 hs3
    by_cases hil : i < len1
    · obtain ⟨b, off, rfl, hbw, hcell⟩ := HC1.out (by omega)
      obtain ⟨x, hx⟩ : ∃ x, z1[i]?.getD 0 = x := ⟨_, rfl⟩
      have hci := HS.out.own.out.cell (hcell i hil).1 (by simp)
      have hwf := (hcell i hil).2
      rw [List.getD_eq_getElem?_getD, hx] at hci hwf
      obtain ⟨hx0, hx1⟩ := bounds_u8 hwf
      have g2 : decide (i < len1) = true := decide_eq_true hil
      obtain ⟨q, hq⟩ : ∃ q : Nat, x % 30 = q := ⟨(x % 30).toNat, by omega⟩
      have hxq : x.tmod 30 = q := by rw [Int.tmod_eq_emod_of_nonneg hx0]; exact hq
      have hq30 : (q : Int) < 30 := by omega
      have hq0 : (0 : Int) ≤ q := by omega
      have g3 : (decide (i < len2) = false ∨ decide (i < len2) = true ∧ decide (200 < x) = false) ∨ (decide (i < len2) = true ∧ decide (200 < x) = true) := by
        by_cases h1 : i < len2 <;> by_cases h2 : 200 < x <;> simp [h1, h2]
      clear hcell hwf hx hq
      rcases g3 with (g3 | ⟨g3, g4⟩) | ⟨g3, g4⟩
      all_goals first
        | (have g3' : decide (i < len2) = true := g3
           have g4' : decide (200 < x) = true := g4
           obtain ⟨b2, off2, rfl, hbw2, hcell2⟩ := HC2.out (by have := of_decide_eq_true g3; omega)
           obtain ⟨k, hk⟩ : ∃ k, z2[i]?.getD 0 = k := ⟨_, rfl⟩
           have hi2 := of_decide_eq_true g3
           have hcy := HS.out.own.out.cell (hcell2 i hi2).1 (by simp)
           rw [List.getD_eq_getElem?_getD, hk] at hcy
           clear hcell2 hk
           go_wp2_with fail)
        | (go_wp2_with fail
           generalize (q : Int) - 1 = k)
      all_goals
        clear g3
        obtain ⟨n', A', hn⟩ := next_ex Hok.out k
        obtain ⟨t, ht⟩ : ∃ t, told n A m k = t := ⟨_, rfl⟩
        have cT := ref_Take HS.out.ref Hok.out (by have := Hs.out; omega) hn
        rw [ht] at cT
        refine cT.mono ?_
        clear cT
        rintro e w4 ⟨v', rfl, hr', o4, hv'⟩
        obtain ⟨p4, c4, hv4⟩ := hr'.slice
        subst hv4
        have hn8 : c8 ∉ (Value.slice p' (RL n A).length c').ownBlock.toList := by have := HS.out.ne; simpa using this
        have e0 := o4.cell b0 hn8
        have e1 := o4.cell b1 hn8
        have f4 : ∀ i, w4.frozen? ⟨c8, i, none⟩ = false := fun i => (World.frozen?_of_block (a := ⟨c8, i, none⟩) (o4.block c8 hc8w hn8)).trans (f8 i)
        have hc84 : c8 < w4.heap.size := lt_of_cell e0
        have Hn := Lib.hid hn
        have Hr' := Lib.hid hr'
        have O4 := Lib.hid o4
        have Hv' := Lib.hid hv'
        have Ht := Lib.hid ht
        clear hn hr' o4 hv' hn8 ht
        have hM := HS.out.put O4.out Hr'.out Hv'.out (.cells #[.slice p4 (RL n' A').length c4, .int .i64 m] 32)
        have HM := Lib.hid hM
        clear hM
        go_wp2_with fail
        obtain ⟨w5, hw5⟩ : ∃ w5, (((w4.setCell ⟨c8, 0, none⟩ (.slice p4 (RL n' A').length c4)).setCell ⟨c8, 1, none⟩ (.int .i64 m)).alloc (.cells #[.slice p4 (RL n' A').length c4, .int .i64 m] 32)) = w5 := ⟨_, rfl⟩
        rw [hw5] at HM
        rw [hw5]
        clear hw5 e0 e1 f4 hc84 b0 b1 f8 hc8w O4 Hr' Hv'
        have CT : Hid (∀ W, Only [] w5 W → Calls Try.prog 9 #[.pointer (some ⟨sp, 0, none⟩), .int .i64 k] W fun e w6 => e = .returned (.int .u8 t) ∧ Sim w w6 sp c8 m n' A' (.slice p4 (RL n' A').length c4)) := fun W hW => by
          have hM := HM.out.only hW
          refine (own_TakeU hM.own (by have := Hs.out; omega) Hn.out).mono ?_
          rintro e w6 ⟨rfl, k1, k2⟩
          exact ⟨by rw [Ht.out], hM.took k1 k2⟩
        have hb' : n' + A'.length ≤ i + 1 := by have := Hn.out.sum; have := Hs.out; omega
        have Hb' := Lib.hid hb'
        have Hok' := Lib.hid Hn.out.ok
        clear hb' HM
        go_region_with (first
          | (go_at_call 9; go_must (refine (CT.out _ (by first | exact Only.refl _ _ | exact (Only.refl _ _).drew)).mono ?_; rintro e w6 ⟨rfl, h6⟩; have x0 := h6.b0; have x1 := h6.b1; have H6 := Lib.hid h6; clear h6))
          | (go_at_call 11; go_must (refine (own_Low H6.out.own).mono ?_; rintro e w7 ⟨rfl, rfl⟩))
          | (go_at_call 15; go_must (refine (ref_Low H6.out.ref Hok'.out (by have := Hb'.out; omega) _).mono ?_; rintro e w7 ⟨rfl, o7⟩; have h7 := H6.out.only o7; have y0 := h7.b0; have y1 := h7.b1; have H7 := Lib.hid h7; clear h7 o7))
          | (go_at_call 10; go_must (refine (own_Ahead H7.out.own).mono ?_; rintro e w8 ⟨pa, ca, rfl, ia, oo, o8⟩; have h8 := H7.out.only o8; have z0 := h8.b0; have z1 := h8.b1; have H8 := Lib.hid h8; have Ia := Lib.hid ia; clear h8 o8 ia oo))
          | (go_at_call 17; go_must (refine (ref_Ahead H8.out.ref Hok'.out (by have := Hb'.out; omega) _).mono ?_; rintro e w9 ⟨pb, cb, rfl, hcb, hC, o9⟩; have H9 := Lib.hid (H8.out.only o9); have Ib := Lib.hid (Ia.out.only o9 (by simp)); have Hcb := Lib.hid hcb; have HC := Lib.hid hC; clear o9 hcb hC))
          | (go_at_call 16; go_must (refine (dd_same Ib.out Hcb.out HC.out (by have := Hb'.out; omega)).mono ?_; rintro e w10 ⟨rfl, o10⟩; have H10 := Lib.hid (H9.out.only o10); clear o10)))
        all_goals
          go_wp2_with fail
          go_roundw
          case rel => exact ⟨i + 1, n', A', _, by go_num, by omega, H10.out, Hb'.out⟩
          case measure => simp [intOf]; omega
    · have g2 : decide (i < len1) = false := decide_eq_false hil
      go_wp2_with fail
      go_ret
      exact ⟨rfl, HS.out.own.out⟩

end Go.Proofs.Ytaldaaihkpckoaa
