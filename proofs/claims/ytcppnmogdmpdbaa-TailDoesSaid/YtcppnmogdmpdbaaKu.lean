/- slices.Index and slices.Delete at traces, walked. -/
import Derived.Test.YtcppnmogdmpdbaaKl
import Derived.Test.YtcppnmogdmpdbaaKt
set_option linter.unusedVariables false
set_option linter.unusedSimpArgs false
namespace Go.Proofs.Ytcppnmogdmpdbaa
open Go.RowKit Go.Mk Go.Hp
attribute [-go_sem] Builtin.append_

theorem guard_trace (op : BinOp) (x y : Operand) (xs ys : Array Value) (w : World) : (eqGuard op 116 x y (.agg xs) (.agg ys)).run Try.prog w = .ok () w :=
  run_eqGuard_agg w op 116 x y xs ys (by kernel_rfl)
theorem eql_trace (a b c d : Int) (w : World) : (binOp .eql 116 (.agg #[.int .u64 a, .int .u64 b]) (.agg #[.int .u64 c, .int .u64 d])).run Try.prog w = .ok (.bool (a == c && b == d)) w := by
  rw [run_eql_struct, equal_trace]; rfl
theorem eql_is (t s : Tr) (w : World) : (binOp .eql 116 (.agg #[.int .u64 t.1, .int .u64 t.2]) (.agg #[.int .u64 s.1, .int .u64 s.2])).run Try.prog w = .ok (.bool (decide (t = s))) w := by
  rw [eql_trace]
  congr 2
  by_cases h : t = s
  · subst h; simp
  · have hb : (t.1 == s.1 && t.2 == s.2) = false := by
      cases hq : (t.1 == s.1 && t.2 == s.2) with
      | false => rfl
      | true =>
        simp only [Bool.and_eq_true, beq_iff_eq] at hq
        exact absurd (Prod.ext hq.1 hq.2) h
    rw [hb, decide_eq_false h]

set_option maxRecDepth 100000 in
set_option maxHeartbeats 2000000 in
theorem index_walk {w : World} {Or : List Tr} {g off c i : Nat} {t : Tr} (h : RowMem w 116 2 (Or.map encTrL) g off c) (hi : Or[i]? = some t) (hn : t ∉ Or.take i) (hl : Or.length ≤ 5001) :
    Calls Try.prog 53 #[.slice (some ⟨g, off, none⟩) Or.length c, .agg #[.int .u64 t.1, .int .u64 t.2]] w fun e w' => e = .returned (.int .i64 i) ∧ Only [] w w' := by
  have H := Lib.hid h
  have Hn := Lib.hid hn
  have Hi := Lib.hid hi
  have hlI : (Or.length : Int) ≤ 5001 := by omega
  have hil : i < Or.length := (List.getElem?_eq_some_iff.1 hi).1
  have hgw := h.lt
  have hgd := guard_trace
  have B8 := heap_alloc_new w (.cells #[.int .u64 t.1, .int .u64 t.2] 116)
  have O8 := Lib.hid ((Only.refl [] w).alloc (.cells #[.int .u64 t.1, .int .u64 t.2] 116))
  have HB8 := Lib.hid B8
  clear h hn hi B8 hl
  go_enter Try.func53, Try.ntmps53
  go_wp2_with fail
  generalize w.alloc (.cells #[.int .u64 t.1, .int .u64 t.2] 116) = w1 at *
  have hgb : g < w1.heap.size := O8.out.lt hgw
  generalize w.heap.size = b8 at *
  go_loopw [5, 8] (fun _ iv wr => ∃ (k d : Nat), iv = .int .i64 k ∧ k ≤ i ∧ wr = w1.drewN d) (fun _ iv _ => Or.length - (intOf iv).toNat)
  case atStart => exact ⟨0, 0, rfl, by omega, rfl⟩
  case round =>
    obtain ⟨k, d, rfl, hk, rfl⟩ := hrel
    have o1 : Only [] w1 (w1.drewN d) := (Only.refl [] _).drewN d
    have hkl : k < Or.length := by omega
    have g1 : decide (k < Or.length) = true := decide_eq_true hkl
    obtain ⟨s, hs⟩ : ∃ s, Or[k]? = some s := ⟨_, List.getElem?_eq_getElem hkl⟩
    have hr := H.out.only O8.out (by simp)
    have x0 := hr.cell (i := k) (f := 0) (x := encTrL s) (by rw [List.getElem?_map, hs]; rfl) rfl
    have x1 := hr.cell (i := k) (f := 1) (x := encTrL s) (by rw [List.getElem?_map, hs]; rfl) rfl
    rw [Nat.add_zero] at x0
    have B := HB8.out
    have y0 : w1.cell? ⟨b8, 0, none⟩ = some (.int .u64 t.1) := by rw [cell_of_blk B]; rfl
    have y1 : w1.cell? ⟨b8, 1, none⟩ = some (.int .u64 t.2) := by rw [cell_of_blk B]; rfl
    have hb8 := lt_of_blk B
    have he := eql_is t s
    by_cases hki : k = i
    · have hts : t = s := by have h1 := Hi.out; rw [← hki, hs] at h1; exact (Option.some.inj h1).symm
      rw [decide_eq_true hts] at he
      have o1' := Lib.hid o1
      clear hr B o1 hs hts
      subst hki
      go_wp2_with fail
      go_quiet (fail)
      go_wp2_with fail
      go_ret
      exact ⟨rfl, (O8.out.trans o1'.out).drewN _⟩
    · have hts : t ≠ s := by
        rintro rfl
        refine Hn.out (List.mem_iff_getElem?.2 ⟨k, ?_⟩)
        rw [List.getElem?_take, if_pos (by omega)]
        exact hs
      rw [decide_eq_false hts] at he
      clear hr B o1 hs hts
      go_wp2_with fail
      go_quiet (fail)
      go_wp2_with fail
      go_roundw
      case rel => exact ⟨k + 1, d + nq, by go_num, by omega, rfl⟩
      case measure => simp [intOf]; omega

theorem erase_map {α β : Type} (f : α → β) (l : List α) (i : Nat) : (l.map f).eraseIdx i = (l.eraseIdx i).map f := by
  rw [List.eraseIdx_eq_take_drop_succ, List.eraseIdx_eq_take_drop_succ, List.map_append, List.map_take, List.map_drop]

set_option maxRecDepth 100000 in
set_option maxHeartbeats 2000000 in
theorem delete_walk {w : World} {Or : List Tr} {g off c i : Nat} (h : RowMem w 116 2 (Or.map encTrL) g off c) (hi : i < Or.length) (hl : Or.length ≤ 5001) :
    Calls Try.prog 54 #[.slice (some ⟨g, off, none⟩) Or.length c, .int .i64 i, .int .i64 ((i : Int) + 1)] w fun e w' => e = .returned (.slice (some ⟨g, off, none⟩) (Or.length - 1) c) ∧ RowMem w' 116 2 ((Or.eraseIdx i).map encTrL) g off c ∧ Only [g] w w' := by
  have hfits := h.fits
  rw [List.length_map] at hfits
  have htop := h.top
  simp only [maxLen] at htop
  obtain ⟨i0, hi0, hz0, hz1, hz2⟩ := info_trace
  obtain ⟨A, hA, hA2⟩ : ∃ A : Addr, (if c = i + 1 then some (⟨g, off, none⟩ : Addr) else some ⟨g, off + (i + 1) * 2, none⟩) = some A ∧ (c ≠ i + 1 → A = ⟨g, off + (i + 1) * 2, none⟩) := by
    by_cases hc : c = i + 1
    · exact ⟨_, if_pos hc, fun h => absurd hc h⟩
    · exact ⟨_, if_neg hc, fun _ => rfl⟩
  have hone : ∀ x ∈ Or.map encTrL, ∀ u ∈ x, u.oneCell' = true := by
    intro x hx u hu
    obtain ⟨s, _, rfl⟩ := List.mem_map.1 hx
    simp only [encTrL, List.mem_cons, List.not_mem_nil, or_false] at hu
    rcases hu with rfl | rfl <;> rfl
  obtain ⟨w1, hap, hr1, o1⟩ := run_append_back (P := Try.prog) (t := 111) (ty := 111) Try.underlying111 hi0 hz1 (h.only (Only.drew (Only.refl [] w)) (by simp)) (j := i) (by rw [List.length_map]; exact hi) hone hA2 (c - (i + 1))
  rw [List.length_map] at hap
  have hlen1 : ((Or.map encTrL).eraseIdx i).length = Or.length - 1 := by rw [List.length_eraseIdx, List.length_map, if_pos hi]
  have hz : ∀ w, (zeroValue 116).run Try.prog w = .ok (.agg #[.int .u64 0, .int .u64 0]) w := fun w => Try.zeroValue116 w
  obtain ⟨w2, hcl, hr2, o2⟩ := run_clear_back (P := Try.prog) (ty := 0) (k := 2) Try.underlying111 hz rfl (by simp [Value.cells, Value.oneCell']) hr1 (by rw [hlen1]; omega) (c - (Or.length - 1))
  rw [hlen1] at hcl
  have hlI : (Or.length : Int) ≤ 5001 := by omega
  have g1 : decide ((i : Int) = (i : Int) + 1) = false := decide_eq_false (by omega)
  have H2 : Hid (RowMem w2 116 2 ((Or.eraseIdx i).map encTrL) g off c) := Lib.hid (by rw [erase_map] at hr2; exact hr2)
  have O2 := Lib.hid (((Only.drew (Only.refl [g] w)).trans o1).trans o2)
  obtain ⟨n1, hn1⟩ : ∃ n1, Or.length = n1 + 1 := ⟨Or.length - 1, by omega⟩
  rw [hn1] at hap hcl hi hfits hlI ⊢
  rw [show i + (n1 + 1 - (i + 1)) = n1 by omega, show n1 + 1 - (i + 1) = n1 - i by omega] at hap
  rw [Nat.add_sub_cancel] at hcl ⊢
  have hcn : ¬ c = n1 := by omega
  clear h hr1 o1 hr2 o2 hone hi0 hz0 hz1 hz2 hlen1 hA2 hz hl hn1
  go_enter Try.func54, Try.ntmps54
  go_wp2_with fail
  go_region
  go_wp2_with fail
  go_ret
  exact ⟨rfl, H2.out, O2.out⟩

end Go.Proofs.Ytcppnmogdmpdbaa
