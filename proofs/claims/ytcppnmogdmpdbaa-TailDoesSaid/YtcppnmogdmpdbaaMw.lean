/- A part of a slice, and a row that takes it in: no program stands in this text. -/
import Derived.Test.YtcppnmogdmpdbaaMv
set_option linter.unusedVariables false
set_option linter.unusedSimpArgs false
namespace Go.Mk
open Go.RowKit
attribute [-go_sem] sliced

theorem sliced_eq (p : Option Addr) (l r c k : Nat) : sliced p l r c k = .slice (if c = l then p else p.map (·.add (l * k))) (r - l) (c - l) := rfl

theorem RowMem.cut {w : World} {e k : Nat} {xs : List (List Value)} {g off cap : Nat} (h : RowMem w e k xs g off cap) {l r : Nat} (hlr : l ≤ r) (hr : r ≤ xs.length) :
    RowMem w e k ((xs.take r).drop l) g (off + l * k) (cap - l) := by
  obtain ⟨cur, hb, hc, hx⟩ := h.blk
  have hf := h.fits
  refine ⟨fun x hx => h.wide x (List.mem_of_mem_take (List.mem_of_mem_drop hx)), ⟨cur, hb, ?_, fun i x f v hi hv => ?_⟩, ?_, by have := h.top; omega⟩
  · have h1 : l * k + (cap - l) * k = cap * k := by rw [← Nat.add_mul]; congr 1; omega
    omega
  · rw [List.getElem?_drop] at hi
    have hil : l + i < r := by
      have := (List.getElem?_eq_some_iff.1 hi).1
      rw [List.length_take] at this
      omega
    rw [List.getElem?_take_of_lt hil] at hi
    have h1 := hx (l + i) x f v hi hv
    rw [Nat.add_mul] at h1
    rw [← h1]
    congr 1
    omega
  · rw [List.length_drop, List.length_take]; omega

theorem SliceIs.fits {w : World} {e k : Nat} {xs : List (List Value)} {p : Option Addr} {n c : Nat} (h : SliceIs w e k xs (.slice p n c)) : xs.length ≤ c := by
  generalize hV : Value.slice p n c = V at h
  cases h with
  | nil => simp
  | @row _ g off cap hrm =>
    obtain ⟨_, _, h7⟩ := Value.slice.inj hV
    subst h7
    exact hrm.fits

theorem SliceIs.cut {w : World} {e k : Nat} {xs : List (List Value)} {p : Option Addr} {n c : Nat} (h : SliceIs w e k xs (.slice p n c)) {l r : Nat} (hlr : l ≤ r) (hr : r ≤ xs.length) :
    SliceIs w e k ((xs.take r).drop l) (sliced p l r c k) := by
  generalize hV : Value.slice p n c = V at h
  cases h with
  | nil =>
    obtain ⟨h5, h6, h7⟩ := Value.slice.inj hV
    subst h5 h6 h7
    simp at hr
    subst hr
    have : l = 0 := by omega
    subst this
    exact SliceIs.nil
  | @row _ g off cap hrm =>
    obtain ⟨h5, h6, h7⟩ := Value.slice.inj hV
    subst h5 h6 h7
    have hf := hrm.fits
    have hlen : ((xs.take r).drop l).length = r - l := by rw [List.length_drop, List.length_take]; omega
    rw [sliced_eq]
    by_cases hc : c = l
    · rw [if_pos hc]
      have h0 : (xs.take r).drop l = [] := by rw [← List.length_eq_zero_iff, hlen]; omega
      rw [h0]
      have h1 : RowMem w e k [] g off 0 := by
        obtain ⟨cur, hb, hcs, hx⟩ := hrm.blk
        exact ⟨by simp, ⟨cur, hb, by omega, fun i x f v hi => by simp at hi⟩, by simp, by simp⟩
      have h2 := SliceIs.row h1
      rw [show r - l = ([] : List (List Value)).length by simp; omega, show c - l = 0 by omega]
      exact h2
    · rw [if_neg hc]
      have h2 := SliceIs.row (hrm.cut hlr hr)
      rw [hlen] at h2
      have h3 : (⟨g, off, none⟩ : Addr).add (l * k) = ⟨g, off + l * k, none⟩ := by unfold Addr.add; split <;> simp_all
      show SliceIs w e k _ (.slice (some ((⟨g, off, none⟩ : Addr).add (l * k))) (r - l) (c - l))
      rw [h3]
      exact h2

section
variable {P : Program} {w : World}
/-- A part of a row, taken in at the end of another one. -/
theorem cut_append {t e : TypeId} {i : TypeInfo} {z : Value} {k bytes : Nat} (ht : P.underlying t = some (.slice e)) (hi : P.info? e = some i) (hz : i.zero = some z) (hsize : i.size = k) (hby : i.bytes = bytes) (hzs : z.cells.size = k) (hb : bytes ≤ 1000)
    {xs ys : List (List Value)} {sv : Value} {p : Option Addr} {n c : Nat} (h : SliceIs w e k xs sv) (hm : SliceIs w e k ys (.slice p n c)) {l r : Nat} (hlr : l ≤ r) (hr : r ≤ ys.length) (hl : xs.length + ys.length ≤ 100000) (h1 : ∀ y ∈ ys, ∀ u ∈ y, u.oneCell' = true) :
    ∃ g cap' w', (Builtin.append_ #[t, t] t #[sv, sliced p l r c k]).run P w = .ok (.slice g (xs.length + (r - l)) cap') w' ∧
      SliceIs w' e k (xs ++ (ys.take r).drop l) (.slice g (xs.length + (r - l)) cap') ∧ Only (blockOf sv) w w' ∧ (∀ x ∈ blockOf (.slice g (xs.length + (r - l)) cap'), x ∈ blockOf sv ∨ w.heap.size ≤ x) := by
  have hlen : ((ys.take r).drop l).length = r - l := by rw [List.length_drop, List.length_take]; omega
  have hc := hm.cut hlr hr
  rw [sliced_eq, ← hlen] at hc
  have := rows_append (P := P) ht hi hz hsize hby hzs hb h hc (by rw [hlen]; omega) (fun y hy => h1 y (List.mem_of_mem_take (List.mem_of_mem_drop hy)))
  rw [hlen] at this
  exact this
end
end Go.Mk
