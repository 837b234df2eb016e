/- The law's own helpers of layer 13: a span of a deed (Of), and which spans came out (taken). -/
import Derived.Test.YtcppnmogdmpdbaaKk
set_option linter.unusedVariables false
set_option linter.unusedSimpArgs false
namespace Go.Proofs.Ytcppnmogdmpdbaa
open Go.RowKit Go.Mk Go.Hp
attribute [-go_sem] Builtin.append_

/-- The span of a deed, by its trace's number and its own. -/
def ofSp (t m : Int) : Sp := ⟨(t / 5 % 2, t % 5 + 1), m + 1, 0, ⟨#[110]⟩, 0, m, false, 0⟩

set_option maxRecDepth 100000 in
set_option maxHeartbeats 1000000 in
theorem of_walk (x y t m : Int) (w : World) (ht : 0 ≤ t ∧ t ≤ 255) (hm : 0 ≤ m ∧ m ≤ 255) :
    Calls Try.prog 33 #[.agg #[.int .u8 x, .int .u8 y, .int .u8 t, .int .u8 m]] w fun e w' => e = .returned (.agg (ofSp t m).arr) ∧ Only [] w w' := by
  obtain ⟨t, rfl⟩ : ∃ n : Nat, t = n := ⟨t.toNat, by omega⟩
  obtain ⟨m, rfl⟩ : ∃ n : Nat, m = n := ⟨m.toNat, by omega⟩
  have ht1 : (t : Int) ≤ 255 := ht.2
  have hm1 : (m : Int) ≤ 255 := hm.2
  clear ht hm
  obtain ⟨a, ha⟩ : ∃ a : Nat, t % 5 = a := ⟨_, rfl⟩
  obtain ⟨q, hq⟩ : ∃ q : Nat, t / 5 = q := ⟨_, rfl⟩
  obtain ⟨c, hc⟩ : ∃ c : Nat, q % 2 = c := ⟨_, rfl⟩
  have e1 : (t : Int).tmod 5 = a := by rw [Int.tmod_eq_emod_of_nonneg (by omega)]; omega
  have e2 : (t : Int).tdiv 5 = q := by rw [Int.tdiv_eq_ediv_of_nonneg (by omega)]; omega
  have e3 : (q : Int).tmod 2 = c := by rw [Int.tmod_eq_emod_of_nonneg (by omega)]; omega
  have e4 : (ofSp t m).arr = #[.int .u64 (c : Int), .int .u64 ((a : Int) + 1), .int .u64 ((m : Int) + 1), .int .u64 0, .string ⟨#[110]⟩, .int .i64 0, .int .i64 (m : Int), .bool false, .slice none 0 0, .int .u64 0] := by
    unfold ofSp Sp.arr
    rw [show (t : Int) / 5 % 2 = c by omega, show (t : Int) % 5 = a by omega]
  rw [e4]
  have ha5 : (a : Int) < 5 := by omega
  have hq51 : (q : Int) ≤ 51 := by omega
  have hc2 : (c : Int) < 2 := by omega
  clear e4 ha hq hc
  go_enter Try.func33, Try.ntmps33
  go_wp2_with fail
  (try simp only [Exit.inBlock, Exit.then])
  refine bodyPost_ret (by simp [results, Try.results33, go_sem]; try rfl) rfl ?_
  exact ⟨rfl, by first | exact ((Only.refl [] _).alloc _).alloc _ | exact (((Only.refl [] _).alloc _).alloc _).drew⟩

def encI (k : Int) : List Value := [.int .i64 k]

/-- Numbers at a row's end. -/
theorem ints_append {w : World} {L M : List Int} {sv : Value} {p : Option Addr} {c : Nat} (h : SliceIs w 3 1 (L.map encI) sv) (hm : SliceIs w 3 1 (M.map encI) (.slice p M.length c)) (hl : L.length + M.length ≤ 1000) :
    ∃ g cap' w', (Builtin.append_ #[22, 22] 22 #[sv, .slice p M.length c]).run Try.prog w = .ok (.slice g (L.length + M.length) cap') w' ∧
      SliceIs w' 3 1 ((L ++ M).map encI) (.slice g (L.length + M.length) cap') ∧ Only (blockOf sv) w w' ∧ (∀ x ∈ blockOf (.slice g (L.length + M.length) cap'), x ∈ blockOf sv ∨ w.heap.size ≤ x) := by
  obtain ⟨i0, hi0, hz0, hz1, hz2⟩ := info_int
  by_cases hM : M = []
  · subst hM
    obtain ⟨q, c2, hsv⟩ := h.form
    rw [List.length_map] at hsv
    subst hsv
    have hfit : L.length ≤ c2 := by
      generalize hX : L.map encI = Y at h
      generalize hV : Value.slice q L.length c2 = V at h
      cases h with
      | nil => obtain ⟨_, h6, h7⟩ := Value.slice.inj hV; omega
      | @row _ g2 off2 cap3 hr =>
        obtain ⟨_, _, h7⟩ := Value.slice.inj hV
        have := hr.fits
        rw [← hX, List.length_map] at this
        omega
    refine ⟨q, c2, w, ?_, by simpa using h, Only.refl _ _, fun x hx => .inl hx⟩
    have hf : ∀ s, (Builtin.firstCells s 0 (.slice p 0 c)).run Try.prog w = .ok #[] w := by
      intro s
      cases p with
      | none => rfl
      | some a => simp [Builtin.firstCells, loadCells, loadCellsFrom]
    cases q with
    | none => simp [Builtin.append_, run_underlying (P := Try.prog) Try.underlying22, sizeOf, typeInfo, hi0, Builtin.lenOf, hfit, hf]
    | some a => simp [Builtin.append_, run_underlying (P := Try.prog) Try.underlying22, sizeOf, typeInfo, hi0, Builtin.lenOf, hfit, hf, storeCells]
  · have hM0 : 0 < M.length := by
      rcases Nat.eq_zero_or_pos M.length with h0 | h0
      · exact absurd (List.eq_nil_of_length_eq_zero h0) hM
      · exact h0
    obtain ⟨a, hp⟩ : ∃ a, p = some a := by
      generalize hX : M.map encI = Y at hm
      generalize hV : Value.slice p M.length c = V at hm
      cases hm with
      | nil => obtain ⟨_, h6, _⟩ := Value.slice.inj hV; omega
      | @row _ g2 off2 cap3 hr => exact ⟨_, (Value.slice.inj hV).1⟩
    subst hp
    have hflat : ∀ j v, (M.map encI).flatten[j]? = some v → w.cell? (a.add j) = some v := by
      generalize hX : M.map encI = Y at hm
      generalize hV : Value.slice (some a) M.length c = V at hm
      cases hm with
      | nil => obtain ⟨h5, _, _⟩ := Value.slice.inj hV; cases h5
      | @row _ g2 off2 cap3 hr =>
        obtain ⟨h5, _, _⟩ := Value.slice.inj hV
        cases h5
        exact hr.flat
    obtain ⟨g, off, cap', w', hap, hrm, o6, hg⟩ := run_append_is (P := Try.prog) (t := 22) (ty := 22) (a := a) (m := M.length) (c := c) (news := M.map encI) Try.underlying22 hi0 hz0 hz1 hz2 rfl
      h (by simp) (by intro x hx; obtain ⟨y, _, rfl⟩ := List.mem_map.1 hx; rfl) hflat (by
        intro u hu
        obtain ⟨l, hl1, hl2⟩ := List.mem_flatten.1 hu
        obtain ⟨y, _, rfl⟩ := List.mem_map.1 hl1
        simp only [encI, List.mem_singleton] at hl2
        subst hl2
        rfl) hM0 (by simp only [List.length_map, maxLen]; omega) (by rw [List.length_map]; omega)
    rw [List.length_map] at hap
    refine ⟨some ⟨g, off, none⟩, cap', w', hap, ?_, o6, fun x hx => ?_⟩
    · have h3 := SliceIs.row hrm
      rw [List.length_append, List.length_map, List.length_map] at h3
      rw [List.map_append]
      exact h3
    · simp only [blockOf, List.mem_singleton] at hx
      rw [hx]
      exact hg

/-- One number at a row's end, out of a block made for it. -/
theorem int_append1 {w : World} {L : List Int} {sv : Value} (h : SliceIs w 3 1 (L.map encI) sv) (hl : L.length ≤ 900) (k : Int) :
    ∃ g off cap' w', (Builtin.append_ #[22, 22] 22 #[sv, .slice (some ⟨w.heap.size, 0, none⟩) 1 1]).run Try.prog (w.alloc (.cells #[.int .i64 k] 3)) = .ok (.slice (some ⟨g, off, none⟩) (L.length + 1) cap') w' ∧
      SliceIs w' 3 1 ((L ++ [k]).map encI) (.slice (some ⟨g, off, none⟩) (L.length + 1) cap') ∧ Only (blockOf sv) w w' ∧ (g ∈ blockOf sv ∨ w.heap.size ≤ g) := by
  have oW : Only [] w (w.alloc (.cells #[.int .i64 k] 3)) := (Only.refl [] _).alloc _
  have hBn := heap_alloc_new w (.cells #[.int .i64 k] 3)
  obtain ⟨i0, hi0, hz0, hz1, hz2⟩ := info_int
  obtain ⟨g, off, cap', w', hap, hrm, o6, hg⟩ := run_append_is (P := Try.prog) (t := 22) (ty := 22) (a := ⟨w.heap.size, 0, none⟩) (m := 1) (c := 1) (news := [encI k]) Try.underlying22 hi0 hz0 hz1 hz2 rfl
    (h.only oW (by simp)) rfl (by simp [encI]) (by
      intro j v hj
      have hadd : (⟨w.heap.size, 0, none⟩ : Addr).add j = ⟨w.heap.size, j, none⟩ := by unfold Addr.add; split <;> simp_all
      rw [hadd]
      refine (cell_of_blk hBn).trans ?_
      rw [show (#[Value.int .i64 k] : Array Value) = [Value.int .i64 k].toArray from rfl, List.getElem?_toArray]
      simpa [encI] using hj) (by simp [encI, Value.oneCell']) (by omega) (by simp only [List.length_map, maxLen]; omega) (by rw [List.length_map]; omega)
  rw [List.length_map] at hap
  refine ⟨g, off, cap', w', hap, ?_, (oW.mono (by simp)).trans o6, hg.imp id (fun h => Nat.le_trans oW.size h)⟩
  have h3 := SliceIs.row hrm
  rw [List.length_append, List.length_map, List.length_singleton] at h3
  rw [List.map_append]
  exact h3

/-- A span's cells in a group. -/
theorem Groups.span {w : World} {p : Option Addr} {len c : Nat} {D : List Ab} {G : List Wr} (h : Groups w (.slice p len c) D G) {i k : Nat} {a : Ab} {s : Sp} (hi : D[i]? = some a) (hk : a.sps[k]? = some s) :
    ∃ g off g2 off2 pc, p = some ⟨g, off, none⟩ ∧ g < w.heap.size ∧ g2 < w.heap.size ∧ w.cell? ⟨g, off + i * 3, none⟩ = some (.int .u64 a.tr.1) ∧ w.cell? ⟨g, off + i * 3 + 1, none⟩ = some (.int .u64 a.tr.2) ∧ w.cell? ⟨g, off + i * 3 + 2, none⟩ = some (.slice (some ⟨g2, off2, none⟩) a.sps.length pc) ∧
      ∀ (j : Nat) (t : Sp), a.sps[j]? = some t → ∀ (f : Nat) (v : Value), t.cells[f]? = some v → w.cell? ⟨g2, off2 + j * 10 + f, none⟩ = some v := by
  obtain ⟨g, off, pa, pc, q, hp, hg, hGi, hqa, hqv, x0, x1, x2⟩ := h.cell hi
  have hs := h.sp q (List.mem_of_getElem? hGi)
  have hsps : q.sps = a.sps := by rw [← hqa]; rfl
  rw [hsps, hqv] at hs
  generalize hX : a.sps.map Sp.cells = Y at hs
  generalize hV : Value.slice pa a.sps.length pc = V at hs
  cases hs with
  | nil =>
    have hl : a.sps.length = 0 := by simpa using congrArg List.length hX
    have := (List.getElem?_eq_some_iff.1 hk).1
    omega
  | @row _ g2 off2 cap2 hr =>
    obtain ⟨h3, _, _⟩ := Value.slice.inj hV
    subst hX
    subst h3
    exact ⟨g, off, g2, off2, pc, hp, hg, hr.lt, x0, x1, x2, fun j t hj f v hv => hr.cell (by rw [List.getElem?_map, hj]; rfl) hv⟩

end Go.Proofs.Ytcppnmogdmpdbaa
