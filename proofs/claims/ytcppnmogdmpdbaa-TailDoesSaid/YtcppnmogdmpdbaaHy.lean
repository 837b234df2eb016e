/- telemeter/heap's Heap as an object: New, Len, Push, First and Pop, walked: it holds timers in order. -/
import Derived.Test.YtcppnmogdmpdbaaHx
set_option linter.unusedVariables false
set_option linter.unusedSimpArgs false
namespace Go.Proofs.Ytcppnmogdmpdbaa
open Go.RowKit Go.Mk Go.Hp
attribute [-go_sem] Builtin.append_

/-- The heap at block hp holds the timers S, in order; F are the blocks that it has. -/
structure HeapObj (w : World) (hp : Nat) (F : List Nat) (most : Int) (S : List Tm) : Prop where
  mem : ∃ bm sv L, RowAt w hp bm most sv L ∧ HeapN (atL L) L.length ∧ L.Perm S ∧ F = hp :: bm :: blockOf sv
  sorted : SortedT S
  nos : (S.map (·.2)).Nodup
  cap : (S.length : Int) ≤ most
  top : most ≤ 5000

theorem HeapObj.only {w w' : World} {hp : Nat} {F S' : List Nat} {most : Int} {S : List Tm} (h : HeapObj w hp F most S) (ho : Only S' w w') (hn : ∀ b ∈ F, b ∉ S') : HeapObj w' hp F most S := by
  obtain ⟨bm, sv, L, hR, hH, hP, rfl⟩ := h.mem
  exact ⟨⟨bm, sv, L, hR.only ho (hn _ (by simp)) (hn _ (by simp)) (fun b hb => hn b (by simp [hb])), hH, hP, rfl⟩, h.sorted, h.nos, h.cap, h.top⟩
theorem HeapObj.lts {w : World} {hp : Nat} {F : List Nat} {most : Int} {S : List Tm} (h : HeapObj w hp F most S) : ∀ b ∈ F, b < w.heap.size := by
  obtain ⟨bm, sv, L, hR, hH, hP, rfl⟩ := h.mem
  exact hR.lts

set_option maxHeartbeats 1000000 in
theorem heap_len {w : World} {hp : Nat} {F : List Nat} {most : Int} {S : List Tm} (h : HeapObj w hp F most S) :
    Calls Try.prog 19 #[.pointer (some ⟨hp, 0, none⟩)] w fun e w' => e = .returned (.int .i64 S.length) ∧ w' = w := by
  obtain ⟨bm, sv, L, hR, hH, hP, rfl⟩ := h.mem
  have hl := hP.length_eq
  have cL := row_len' hR
  rw [hl] at cL
  have HcL := Lib.hid cL
  clear cL hl
  go_enter Try.func19, Try.ntmps19
  go_wp2_with fail
  refine HcL.out.mono ?_
  rintro e w2 ⟨rfl, hw⟩
  subst hw
  go_wp2_with fail
  go_ret
  exact ⟨rfl, rfl⟩

set_option maxRecDepth 100000 in
set_option maxHeartbeats 1000000 in
theorem heap_new {w : World} (n : Int) (h1 : 1 ≤ n) (h2 : n ≤ 5000) :
    Calls Try.prog 16 #[.int .i64 n] w fun e w' => ∃ hp F, e = .returned (.pointer (some ⟨hp, 0, none⟩)) ∧ HeapObj w' hp F n [] ∧ (∀ b ∈ F, w.heap.size ≤ b) ∧ Only [] w w' := by
  have g1 : decide (n < 1) = false := by simp; omega
  have g2 : decide (5000 < n) = false := by simp; omega
  have hmm := @run_makeMap Try.prog
  go_enter Try.func16, Try.ntmps16
  go_wp2
  go_ret
  have hB := heap_alloc_new (w.alloc (.map #[] 0)) (.cells #[.slice none 0 0, .map (some w.heap.size), .int .i64 n] 99)
  rw [World.size_alloc] at hB
  have hM : ((w.alloc (.map #[] 0)).alloc (.cells #[.slice none 0 0, .map (some w.heap.size), .int .i64 n] 99)).heap[w.heap.size]? = some (.map #[] 0) := by
    rw [heap_alloc_old _ _ (by simp)]; exact heap_alloc_new w _
  refine ⟨w.heap.size + 1, [w.heap.size + 1, w.heap.size], rfl, ⟨⟨w.heap.size, .slice none 0 0, [], ⟨?_, ?_, ?_, ?_, .nil, by simp [blockOf], [], 0, ⟨?_, by simp, by simp, by simp⟩, ⟨by simp, by simp [getL]⟩⟩, fun k h0 hk => absurd hk (by simp), List.Perm.refl _, by simp [blockOf]⟩, List.Pairwise.nil, by simp, by simp; omega, h2⟩, by simp, ((Only.refl _ _).alloc _).alloc _⟩
  · rw [cell_of_blk hB]; rfl
  · rw [cell_of_blk hB]; rfl
  · rw [cell_of_blk hB]; rfl
  · intro i; exact frozen_of_blk hB
  · exact hM

theorem heap_new_nil {w : World} (n : Int) (h : n < 1 ∨ 5000 < n) :
    Calls Try.prog 16 #[.int .i64 n] w fun e w' => e = .returned (.pointer none) ∧ w' = w := by
  have hmm := @run_makeMap Try.prog
  rcases h with h | h
  · have g1 : decide (n < 1) = true := by simp; omega
    go_enter Try.func16, Try.ntmps16
    go_wp2
    go_ret
    exact ⟨rfl, rfl⟩
  · have g1 : decide (n < 1) = false := by simp; omega
    have g2 : decide (5000 < n) = true := by simp; omega
    go_enter Try.func16, Try.ntmps16
    go_wp2
    go_ret
    exact ⟨rfl, rfl⟩

theorem getL_iff {ms : List (Ent Int)} {L : List Tm} (h : PosIs ms L) (no : Int) : (getL no ms).isSome = true ↔ ∃ a ∈ L, a.2 = no := by
  constructor
  · intro hs
    obtain ⟨v, hv⟩ := Option.isSome_iff_exists.1 hs
    obtain ⟨i, t, ht, hn⟩ := h.only no v hv
    exact ⟨t, List.mem_of_getElem? ht, hn⟩
  · rintro ⟨a, ha, rfl⟩
    obtain ⟨i, hi, hia⟩ := List.getElem_of_mem ha
    rw [h.there i a (by rw [List.getElem?_eq_getElem hi, hia])]
    rfl

def hasT (no : Int) (S : List Tm) : Bool := S.any (fun a => a.2 == no)
theorem hasT_iff {no : Int} {S : List Tm} : hasT no S = true ↔ ∃ a ∈ S, a.2 = no := by simp [hasT]
theorem hasT_get {ms : List (Ent Int)} {L S : List Tm} (h : PosIs ms L) (hp : L.Perm S) (no : Int) : (getL no ms).isSome = hasT no S := by
  rw [Bool.eq_iff_iff, getL_iff h, hasT_iff]
  constructor
  · rintro ⟨a, ha, hn⟩; exact ⟨a, hp.mem_iff.1 ha, hn⟩
  · rintro ⟨a, ha, hn⟩; exact ⟨a, hp.mem_iff.2 ha, hn⟩

/-- What Push tells, and what is there then. -/
def pushTold (t : Tm) (S : List Tm) (most : Int) : Int := if hasT t.2 S then 1 else if most ≤ S.length then 70 else 0

set_option maxRecDepth 100000 in
set_option maxHeartbeats 1000000 in
/-- Push of a timer that cannot be: nothing has changed. -/
theorem heap_Push_not {w : World} {hp : Nat} {F : List Nat} {most : Int} {S : List Tm} (h : HeapObj w hp F most S) (t : Tm) (hno : pushTold t S most ≠ 0) :
    Calls Try.prog 17 #[.pointer (some ⟨hp, 0, none⟩), .agg #[.int .i64 t.1, .int .i64 t.2]] w fun e w' => e = .returned (.int .u16 (pushTold t S most)) ∧ Only [] w w' := by
  have Hh := Lib.hid h
  obtain ⟨bm, sv, L, hR, hH, hP, rfl⟩ := h.mem
  obtain ⟨ms, clock, hm, hpos⟩ := hR.mp
  have hum : Try.prog.underlying 95 = some (.map 3 3) := by kernel_rfl
  have hui : Try.prog.underlying 3 = some (.int .i64) := by kernel_rfl
  have o1 : Only [] w (w.alloc (.cells #[.int .i64 t.1, .int .i64 t.2] 30)).drew := ((Only.refl _ _).alloc _).drew
  have hlk := run_lookup_ok hum (keyOk_int hui) (z := .int .i64 0) (by kernel_rfl) (hm.only o1 (by simp)) t.2
  have hhas := hasT_get hpos hP t.2
  have c1 := hR.c1
  have c2 := hR.c2
  have hhl := lt_of_cell c1
  rw [hhas] at hlk
  generalize (getL t.2 ms).getD (.int .i64 0) = v0 at hlk
  generalize hw1 : w.alloc (.cells #[.int .i64 t.1, .int .i64 t.2] 30) = w1 at *
  have HW := Lib.hid hw1
  have hk1 : w1.cell? ⟨w.heap.size, 1, none⟩ = some (.int .i64 t.2) := by rw [← hw1]; simp [go_sem]
  have d1 := o1.cell c1 (by simp)
  have d2 := o1.cell c2 (by simp)
  rw [World.cell?_drew] at d1 d2
  clear hpos hm hH hP hR hhas hum hui hw1 c1 c2
  unfold pushTold at *
  cases hq : hasT t.2 S with
  | true =>
    rw [hq] at hlk hno
    clear hno hq
    go_enter Try.func17, Try.ntmps17
    go_wp2
    rw [HW.out]
    go_region
    all_goals go_wp2
    all_goals go_ret
    all_goals exact ⟨rfl, o1⟩
  | false =>
    rw [hq] at hlk hno
    have hfull : most ≤ S.length := by simp at hno; exact hno
    clear hno hq
    go_enter Try.func17, Try.ntmps17
    go_wp2
    rw [HW.out]
    go_region
    all_goals go_wp2
    all_goals
      refine region_tail 6 (by kernel_rfl) (by kernel_rfl) ?_
      simp only [List.take_succ_cons, List.take_zero, List.drop_succ_cons, List.drop_zero]
      repeat still_step
      still_call (heap_len (Hh.out.only o1.drew (by simp)))
      repeat still_step
      refine wpStill_nil ?_
      go_wp2_with fail
      go_ret
      exact ⟨rfl, o1.drew⟩

set_option maxRecDepth 100000 in
set_option maxHeartbeats 1000000 in
theorem heap_Push {w : World} {hp : Nat} {F : List Nat} {most : Int} {S : List Tm} (h : HeapObj w hp F most S) (t : Tm) (hyes : pushTold t S most = 0) :
    Calls Try.prog 17 #[.pointer (some ⟨hp, 0, none⟩), .agg #[.int .i64 t.1, .int .i64 t.2]] w fun e w' => e = .returned (.int .u16 0) ∧
      ∃ F', HeapObj w' hp F' most (insT t S) ∧ Only F w w' ∧ (∀ b ∈ F', b ∈ F ∨ w.heap.size ≤ b) := by
  have Hh := Lib.hid h
  obtain ⟨bm, sv, L, hR, hH, hP, rfl⟩ := h.mem
  obtain ⟨ms, clock, hm, hpos⟩ := hR.mp
  have hum : Try.prog.underlying 95 = some (.map 3 3) := by kernel_rfl
  have hui : Try.prog.underlying 3 = some (.int .i64) := by kernel_rfl
  have o1 : Only [] w (w.alloc (.cells #[.int .i64 t.1, .int .i64 t.2] 30)).drew := ((Only.refl _ _).alloc _).drew
  have hlk := run_lookup_ok hum (keyOk_int hui) (z := .int .i64 0) (by kernel_rfl) (hm.only o1 (by simp)) t.2
  have hhas := hasT_get hpos hP t.2
  have c1 := hR.c1
  have c2 := hR.c2
  have hhl := lt_of_cell c1
  rw [hhas] at hlk
  generalize (getL t.2 ms).getD (.int .i64 0) = v0 at hlk
  generalize hw1 : w.alloc (.cells #[.int .i64 t.1, .int .i64 t.2] 30) = w1 at *
  have HW := Lib.hid hw1
  have hk0 : w1.cell? ⟨w.heap.size, 0, none⟩ = some (.int .i64 t.1) := by rw [← hw1]; simp [go_sem]
  have hk1 : w1.cell? ⟨w.heap.size, 1, none⟩ = some (.int .i64 t.2) := by rw [← hw1]; simp [go_sem]
  have d1 := o1.cell c1 (by simp)
  have d2 := o1.cell c2 (by simp)
  rw [World.cell?_drew] at d1 d2
  have hmi : ∀ (v : Value) (w : World), (Instr.makeInterface 101 v).run Try.prog w = .ok (.iface 101 v) w := fun v w => by
    simp [Instr.makeInterface, run_underlying Try.underlying101]
  have hmi2 : ∀ (v : Value) (w : World), (Instr.makeInterface 30 v).run Try.prog w = .ok (.iface 30 v) w := fun v w => by
    simp [Instr.makeInterface, run_underlying Try.underlying30]
  unfold pushTold at *
  have hq : hasT t.2 S = false := by
    cases hq : hasT t.2 S with
    | false => rfl
    | true => rw [hq] at hyes; simp at hyes
  rw [hq] at hlk hyes
  have hroom : (S.length : Int) < most := by simp at hyes; omega
  have hroom' : decide (most ≤ (S.length : Int)) = false := by simp; omega
  have hnew : ∀ a ∈ S, a.2 ≠ t.2 := by
    intro a ha he
    have := hasT_iff.2 ⟨a, ha, he⟩
    rw [hq] at this
    cases this
  have HH := Lib.hid hH
  have HP := Lib.hid hP
  have HR := Lib.hid hR
  have Hnew := Lib.hid hnew
  have hpl := hP.length_eq
  have hLlen : L.length ≤ 10000 := by have := h.top; omega
  have HL := Lib.hid hLlen
  clear hpos hm hH hP hR hhas hum hui hw1 c1 c2 hyes hq hnew hpl hLlen
  go_enter Try.func17, Try.ntmps17
  go_wp2
  rw [HW.out]
  go_region
  all_goals go_wp2
  all_goals
    refine region_tail 6 (by kernel_rfl) (by kernel_rfl) ?_
    simp only [List.take_succ_cons, List.take_zero, List.drop_succ_cons, List.drop_zero]
    repeat still_step
    still_call (heap_len (Hh.out.only o1.drew (by simp)))
    repeat still_step
    refine wpStill_nil ?_
    go_wp2_with fail
    refine region_tail 6 (by kernel_rfl) (by kernel_rfl) ?_
    simp only [List.take_succ_cons, List.take_zero, List.drop_succ_cons, List.drop_zero]
    repeat still_step
    refine wpStill_nil ?_
    go_wp2_with fail
    refine (heap_push (HR.out.only o1.drew.drew (by simp) (by simp) (by simp)) HH.out t (fun i a ha => Hnew.out a (HP.out.mem_iff.1 (List.mem_of_getElem? ha))) HL.out).mono ?_
    rintro e w2 ⟨rfl, sv', L', hR2, hH2, hP2, ho2, hb2⟩
    go_wp2_with fail
    go_ret
    refine ⟨rfl, _, ⟨⟨bm, sv', L', hR2, hH2, ?_, rfl⟩, insT_sorted Hh.out.sorted Hnew.out, ?_, ?_, Hh.out.top⟩, ?_, ?_⟩
    · exact (hP2.trans (HP.out.cons t)).trans (insT_perm t S).symm
    · refine (((insT_perm t S).map (·.2)).nodup_iff).2 ?_
      rw [List.map_cons, List.nodup_cons]
      refine ⟨fun hm => ?_, Hh.out.nos⟩
      obtain ⟨a, ha, he⟩ := List.mem_map.1 hm
      exact Hnew.out a ha he
    · rw [insT_length]; omega
    · exact (o1.drew.drew.mono (by simp)).trans ho2
    · intro b hb
      rcases List.mem_cons.1 hb with rfl | hb
      · exact .inl (by simp)
      · rcases List.mem_cons.1 hb with rfl | hb
        · exact .inl (by simp)
        · rcases hb2 b hb with h1 | h1
          · exact .inl (by simp [h1])
          · exact .inr (Nat.le_trans o1.size h1)

end Go.Proofs.Ytcppnmogdmpdbaa
