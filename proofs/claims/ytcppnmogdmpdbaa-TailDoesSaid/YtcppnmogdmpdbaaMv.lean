/- Append in general, one element or a whole row: no program stands in this text. -/
import Derived.Test.YtcppnmogdmpdbaaMa
set_option linter.unusedVariables false
set_option linter.unusedSimpArgs false
namespace Go.Mk
open Go.RowKit
section
variable {P : Program} {w : World}

theorem row_append1 {t e : TypeId} {i : TypeInfo} {z : Value} {k bytes : Nat} (ht : P.underlying t = some (.slice e)) (hi : P.info? e = some i) (hz : i.zero = some z) (hsize : i.size = k) (hby : i.bytes = bytes) (hzs : z.cells.size = k) (hb : bytes ≤ 1000)
    {xs : List (List Value)} {sv : Value} (h : SliceIs w e k xs sv) (hl : xs.length ≤ 100000) (cs : Array Value) (hc : cs.size = k) (h1 : ∀ u ∈ cs.toList, u.oneCell' = true) :
    ∃ g off cap' w', (Builtin.append_ #[t, t] t #[sv, .slice (some ⟨w.heap.size, 0, none⟩) 1 1]).run P (w.alloc (.cells cs e)) = .ok (.slice (some ⟨g, off, none⟩) (xs.length + 1) cap') w' ∧
      SliceIs w' e k (xs ++ [cs.toList]) (.slice (some ⟨g, off, none⟩) (xs.length + 1) cap') ∧ Only (blockOf sv) w w' ∧ (g ∈ blockOf sv ∨ w.heap.size ≤ g) := by
  have oW : Only [] w (w.alloc (.cells cs e)) := (Only.refl [] _).alloc _
  have hBn := heap_alloc_new w (.cells cs e)
  have hmul : (xs.length + 1) * bytes ≤ 100001 * 1000 := Nat.mul_le_mul (by omega) hb
  obtain ⟨g, off, cap', w', hap, hrm, o6, hg⟩ := run_append_is (P := P) (t := t) (ty := t) (a := ⟨w.heap.size, 0, none⟩) (m := 1) (c := 1) (news := [cs.toList]) ht hi hz hsize hby hzs
    (h.only oW (by simp)) rfl (by simpa using hc) (by
      intro j v hj
      have hadd : (⟨w.heap.size, 0, none⟩ : Addr).add j = ⟨w.heap.size, j, none⟩ := by unfold Addr.add; split <;> simp_all
      rw [hadd]
      refine (cell_of_blk hBn).trans ?_
      simpa using hj) (by simpa using h1) (by omega) (by simp only [maxLen]; omega) (by omega)
  refine ⟨g, off, cap', w', hap, ?_, (oW.mono (by simp)).trans o6, hg.imp id (fun h => Nat.le_trans oW.size h)⟩
  have h3 := SliceIs.row hrm
  rw [List.length_append, List.length_singleton] at h3
  exact h3

theorem rows_append {t e : TypeId} {i : TypeInfo} {z : Value} {k bytes : Nat} (ht : P.underlying t = some (.slice e)) (hi : P.info? e = some i) (hz : i.zero = some z) (hsize : i.size = k) (hby : i.bytes = bytes) (hzs : z.cells.size = k) (hb : bytes ≤ 1000)
    {xs ys : List (List Value)} {sv : Value} {p : Option Addr} {c : Nat} (h : SliceIs w e k xs sv) (hm : SliceIs w e k ys (.slice p ys.length c)) (hl : xs.length + ys.length ≤ 100000) (h1 : ∀ y ∈ ys, ∀ u ∈ y, u.oneCell' = true) :
    ∃ g cap' w', (Builtin.append_ #[t, t] t #[sv, .slice p ys.length c]).run P w = .ok (.slice g (xs.length + ys.length) cap') w' ∧
      SliceIs w' e k (xs ++ ys) (.slice g (xs.length + ys.length) cap') ∧ Only (blockOf sv) w w' ∧ (∀ x ∈ blockOf (.slice g (xs.length + ys.length) cap'), x ∈ blockOf sv ∨ w.heap.size ≤ x) := by
  by_cases hM : ys = []
  · subst hM
    obtain ⟨q, c2, hsv⟩ := h.form
    subst hsv
    have hfit : xs.length ≤ c2 := by
      generalize hV : Value.slice q xs.length c2 = V at h
      cases h with
      | nil => obtain ⟨_, h6, h7⟩ := Value.slice.inj hV; omega
      | @row _ g2 off2 cap3 hr =>
        obtain ⟨_, _, h7⟩ := Value.slice.inj hV
        have := hr.fits
        omega
    refine ⟨q, c2, w, ?_, by simpa using h, Only.refl _ _, fun x hx => .inl hx⟩
    have hf : ∀ s, (Builtin.firstCells s 0 (.slice p 0 c)).run P w = .ok #[] w := by
      intro s
      cases p with
      | none => rfl
      | some a => simp [Builtin.firstCells, loadCells, loadCellsFrom]
    cases q with
    | none => simp [Builtin.append_, run_underlying ht, sizeOf, typeInfo, hi, Builtin.lenOf, hfit, hf]
    | some a => simp [Builtin.append_, run_underlying ht, sizeOf, typeInfo, hi, Builtin.lenOf, hfit, hf, storeCells]
  · have hM0 : 0 < ys.length := List.length_pos_iff.2 hM
    have hmul : (xs.length + ys.length) * bytes ≤ 100000 * 1000 := Nat.mul_le_mul hl hb
    obtain ⟨a, hp⟩ : ∃ a, p = some a := by
      generalize hV : Value.slice p ys.length c = V at hm
      cases hm with
      | nil => exact absurd rfl hM
      | @row _ g2 off2 cap3 hr => exact ⟨_, (Value.slice.inj hV).1⟩
    subst hp
    have hww : (∀ y ∈ ys, y.length = k) ∧ ∀ j v, ys.flatten[j]? = some v → w.cell? (a.add j) = some v := by
      generalize hV : Value.slice (some a) ys.length c = V at hm
      cases hm with
      | nil => exact absurd rfl hM
      | @row _ g2 off2 cap3 hr =>
        obtain ⟨h5, _, _⟩ := Value.slice.inj hV
        cases h5
        exact ⟨hr.wide, hr.flat⟩
    obtain ⟨g, off, cap', w', hap, hrm, o6, hg⟩ := run_append_is (P := P) (t := t) (ty := t) (a := a) (m := ys.length) (c := c) (news := ys) ht hi hz hsize hby hzs
      h rfl hww.1 hww.2 (by
        intro u hu
        obtain ⟨l, hl1, hl2⟩ := List.mem_flatten.1 hu
        exact h1 l hl1 u hl2) hM0 (by simp only [maxLen]; omega) (by omega)
    refine ⟨some ⟨g, off, none⟩, cap', w', hap, ?_, o6, fun x hx => ?_⟩
    · have h3 := SliceIs.row hrm
      rw [List.length_append] at h3
      exact h3
    · simp only [blockOf, List.mem_singleton] at hx
      rw [hx]
      exact hg
end

end Go.Mk
