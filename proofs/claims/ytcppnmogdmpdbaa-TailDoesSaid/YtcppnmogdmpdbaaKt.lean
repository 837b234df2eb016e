/- Rows that are cut: an element taken out, a place cleared, the first one left out. No program stands in this text. -/
import Derived.Test.YtcppnmogdmpdbaaMb
set_option linter.unusedVariables false
set_option linter.unusedSimpArgs false
namespace Go.Mk
open Go.RowKit

theorem RowMem.rewrite {w : World} {e : TypeId} {k : Nat} {xs ys : List (List Value)} {g off cap : Nat} (h : RowMem w e k xs g off cap) {cur cur' : Array Value} (hb : w.heap[g]? = some (.cells cur e (0, 0))) (hs : cur'.size = cur.size)
    (hw : ∀ y ∈ ys, y.length = k) (hl : ys.length ≤ cap) (hget : ∀ i x f v, ys[i]? = some x → x[f]? = some v → cur'[off + i * k + f]? = some v) : RowMem (w.setRow g cur') e k ys g off cap := by
  obtain ⟨c2, h2, h3, _⟩ := h.blk
  rw [hb] at h2
  cases h2
  exact ⟨hw, ⟨cur', setRow_heap w g cur cur' e _ hb, by omega, hget⟩, hl, h.top⟩

theorem eraseIdx_get {α : Type} (xs : List α) (j i : Nat) : (xs.eraseIdx j)[i]? = if i < j then xs[i]? else xs[i + 1]? := by
  rw [List.getElem?_eraseIdx]

section
variable {P : Program} {w : World}

/-- append(xs[:j], xs[j+1:]...): the element j is taken out. -/
theorem run_append_back {t ty e : TypeId} {i : TypeInfo} {k : Nat} (ht : P.underlying t = some (.slice e)) (hi : P.info? e = some i) (hsize : i.size = k)
    {xs : List (List Value)} {g off cap : Nat} (h : RowMem w e k xs g off cap) {j : Nat} (hj : j < xs.length) (h1 : ∀ x ∈ xs, ∀ u ∈ x, u.oneCell' = true) {A : Addr} (hA : cap ≠ j + 1 → A = ⟨g, off + (j + 1) * k, none⟩) (c : Nat) :
    ∃ w', (Builtin.append_ #[t, t] ty #[.slice (some ⟨g, off, none⟩) j cap, .slice (some A) (xs.length - (j + 1)) c]).run P w = .ok (.slice (some ⟨g, off, none⟩) (j + (xs.length - (j + 1))) cap) w' ∧ RowMem w' e k (xs.eraseIdx j) g off cap ∧ Only [g] w w' := by
  subst hsize
  obtain ⟨cur, hb, hc, hget⟩ := h.blk
  have hdw : ∀ x ∈ xs.drop (j + 1), x.length = i.size := fun x hx => h.wide x (List.mem_of_mem_drop hx)
  have hdl : (xs.drop (j + 1)).length = xs.length - (j + 1) := List.length_drop
  have hnl := flat_len hdw
  rw [hdl] at hnl
  have hfits := h.fits
  have hmul : (j + 1 + (xs.length - (j + 1))) * i.size ≤ cap * i.size := Nat.mul_le_mul_right _ (by omega)
  have hmul2 : (j + 1 + (xs.length - (j + 1))) * i.size = j * i.size + i.size + (xs.length - (j + 1)) * i.size := by rw [Nat.add_mul, Nat.add_mul, Nat.one_mul]
  have hnews : ∀ q u, (xs.drop (j + 1)).flatten[q]? = some u → w.cell? (A.add q) = some u := by
    intro q u hq
    have hql := (List.getElem?_eq_some_iff.1 hq).1
    rw [hnl] at hql
    have hne : cap ≠ j + 1 := by
      rintro rfl
      have : xs.length - (j + 1) = 0 := by omega
      rw [this, Nat.zero_mul] at hql
      omega
    have hk : 0 < i.size := by
      rcases Nat.eq_zero_or_pos i.size with h0 | h0
      · rw [h0, Nat.mul_zero] at hql; omega
      · exact h0
    rw [hA hne]
    have hadd : (⟨g, off + (j + 1) * i.size, none⟩ : Addr).add q = ⟨g, off + (j + 1) * i.size + q, none⟩ := by unfold Addr.add; split <;> simp_all
    rw [hadd]
    have hqi : q / i.size < xs.length - (j + 1) := by rw [Nat.div_lt_iff_lt_mul hk]; omega
    have hqf : q % i.size < i.size := Nat.mod_lt _ hk
    have hx : (xs.drop (j + 1))[q / i.size]? = some (xs.drop (j + 1))[q / i.size] := List.getElem?_eq_getElem (by omega)
    have hxw := hdw _ (List.getElem_mem (l := xs.drop (j + 1)) (n := q / i.size) (by omega))
    have hv : ((xs.drop (j + 1))[q / i.size])[q % i.size]? = some ((xs.drop (j + 1))[q / i.size])[q % i.size] := List.getElem?_eq_getElem (by omega)
    have h2 := flat_get hdw hx hv
    have hq2 : q / i.size * i.size + q % i.size = q := Nat.div_add_mod' q i.size
    rw [hq2, hq] at h2
    cases h2
    rw [List.getElem?_drop] at hx
    have h3 := h.cell hx hv
    rw [show off + (j + 1 + q / i.size) * i.size + q % i.size = off + (j + 1) * i.size + q by rw [Nat.add_mul]; omega] at h3
    exact h3
  have hone : ∀ u ∈ (xs.drop (j + 1)).flatten, u.oneCell' = true := fun u hu => by
    obtain ⟨l, hl1, hl2⟩ := List.mem_flatten.1 hu
    exact h1 l (List.mem_of_mem_drop hl1) u hl2
  have hr := run_append_room_off (P := P) (w := w) t ty e i ht hi g off j cap cur hb A (xs.length - (j + 1)) c (xs.drop (j + 1)).flatten hnl hnews hone (by omega) (by rw [hnl]; omega)
  refine ⟨_, hr, ?_, only_setRow g _⟩
  refine h.rewrite hb ?_ (fun y hy => h.wide y (List.mem_of_mem_eraseIdx hy)) ?_ ?_
  · simp only [List.size_toArray, List.length_append, List.length_take, List.length_drop, Array.length_toList, hnl]
    omega
  · rw [List.length_eraseIdx]; split <;> omega
  · intro q x f v hx hf
    rw [eraseIdx_get] at hx
    rw [List.getElem?_toArray]
    have htl : (cur.toList.take (off + j * i.size)).length = off + j * i.size := by
      simp only [List.length_take, Array.length_toList]
      omega
    by_cases hq : q < j
    · rw [if_pos hq] at hx
      have hfk : f < i.size := by have := h.wide x (List.mem_of_getElem? hx); have := (List.getElem?_eq_some_iff.1 hf).1; omega
      have hle : (q + 1) * i.size ≤ j * i.size := Nat.mul_le_mul_right _ (by omega)
      rw [Nat.add_mul, Nat.one_mul] at hle
      have h5 := hget q x f v hx hf
      rw [List.append_assoc, List.getElem?_append_left (by rw [htl]; omega), List.getElem?_take, if_pos (by omega)]
      simpa using h5
    · rw [if_neg hq] at hx
      have hx2 : (xs.drop (j + 1))[q - j]? = some x := by rw [List.getElem?_drop, ← hx]; congr 1; omega
      have h5 := flat_get hdw hx2 hf
      have hlt := (List.getElem?_eq_some_iff.1 h5).1
      have hmulq : q * i.size = j * i.size + (q - j) * i.size := by rw [← Nat.add_mul]; congr 1; omega
      rw [List.append_assoc, List.getElem?_append_right (by rw [htl]; omega), htl, List.getElem?_append_left (by omega)]
      rw [show off + q * i.size + f - (off + j * i.size) = (q - j) * i.size + f by omega]
      exact h5

/-- clear of the one place behind the row. -/
theorem run_clear_back {t ty e : TypeId} {k : Nat} {z : Value} (ht : P.underlying t = some (.slice e)) (hz : ∀ w, (zeroValue e).run P w = .ok z w) (hzs : z.cells.size = k) (hz1 : ∀ u ∈ z.cells.toList, u.oneCell' = true)
    {xs : List (List Value)} {g off cap : Nat} (h : RowMem w e k xs g off cap) (hr : xs.length < cap) (c : Nat) :
    ∃ w', (Builtin.clear_ #[t] ty #[.slice (some ⟨g, off + xs.length * k, none⟩) 1 c]).run P w = .ok (.tuple #[]) w' ∧ RowMem w' e k xs g off cap ∧ Only [g] w w' := by
  obtain ⟨cur, hb, hc, hget⟩ := h.blk
  have hl : (Builtin.zeroCells z.cells 1).toList.length = k := by rw [Array.length_toList, size_zeroCells, hzs, Nat.one_mul]
  have hone : ∀ u ∈ (Builtin.zeroCells z.cells 1).toList, u.oneCell' = true := by
    intro u hu
    simp only [Builtin.zeroCells, Array.toList_map, List.mem_map, Array.mem_toList_iff, Array.mem_range, Nat.one_mul] at hu
    obtain ⟨q, hq, rfl⟩ := hu
    rw [Nat.mod_eq_of_lt hq]
    refine hz1 _ ?_
    rw [getElem!_pos z.cells q hq]
    exact Array.mem_toList_iff.2 (Array.getElem_mem hq)
  have hmul : (xs.length + 1) * k ≤ cap * k := Nat.mul_le_mul_right _ (by omega)
  rw [Nat.add_mul, Nat.one_mul] at hmul
  have hst := run_storeCells_at P g (off + xs.length * k) e (Builtin.zeroCells z.cells 1).toList 0 cur w hb (by rw [hl]; omega) hone
  simp only [Nat.add_zero] at hst
  have hrun : (Builtin.clear_ #[t] ty #[.slice (some ⟨g, off + xs.length * k, none⟩) 1 c]).run P w = .ok (.tuple #[]) (w.setRow g (cur.toList.take (off + xs.length * k) ++ (Builtin.zeroCells z.cells 1).toList ++ cur.toList.drop (off + xs.length * k + (Builtin.zeroCells z.cells 1).toList.length)).toArray) := by
    simp [Builtin.clear_, run_underlying ht, hz, hst]
  refine ⟨_, hrun, ?_, only_setRow g _⟩
  · refine h.rewrite hb ?_ h.wide h.fits ?_
    · simp only [List.size_toArray, List.length_append, List.length_take, List.length_drop, Array.length_toList]
      rw [Array.length_toList] at hl
      omega
    · intro q x f v hx hf
      have h5 := hget q x f v hx hf
      have hql := (List.getElem?_eq_some_iff.1 hx).1
      have hfk : f < k := by have := h.wide x (List.mem_of_getElem? hx); have := (List.getElem?_eq_some_iff.1 hf).1; omega
      have hle : (q + 1) * k ≤ xs.length * k := Nat.mul_le_mul_right _ (by omega)
      rw [Nat.add_mul, Nat.one_mul] at hle
      have htl : (cur.toList.take (off + xs.length * k)).length = off + xs.length * k := by
        simp only [List.length_take, Array.length_toList]
        omega
      rw [List.getElem?_toArray, List.append_assoc, List.getElem?_append_left (by rw [htl]; omega), List.getElem?_take, if_pos (by omega)]
      simpa using h5
end

/-- The first one is left out. -/
theorem RowMem.tail {w : World} {e : TypeId} {k : Nat} {x : List Value} {xs : List (List Value)} {g off cap : Nat} (h : RowMem w e k (x :: xs) g off cap) :
    if cap = 1 then RowMem w e k xs g off 0 else RowMem w e k xs g (off + k) (cap - 1) := by
  obtain ⟨cur, hb, hc, hget⟩ := h.blk
  have hf := h.fits
  rw [List.length_cons] at hf
  have ht := h.top
  have hw : ∀ y ∈ xs, y.length = k := fun y hy => h.wide y (List.mem_cons_of_mem _ hy)
  split
  · rename_i h1
    have h0 : xs = [] := List.eq_nil_of_length_eq_zero (by omega)
    subst h0
    exact ⟨by simp, ⟨cur, hb, by omega, by simp⟩, by simp, by omega⟩
  · have hm : cap * k = (cap - 1) * k + k := by
      rw [show cap = cap - 1 + 1 by omega, Nat.add_mul, Nat.one_mul]
      rfl
    refine ⟨hw, ⟨cur, hb, by omega, fun i y f v hy hv => ?_⟩, by omega, by omega⟩
    have h2 := hget (i + 1) y f v (by simpa using hy) hv
    rw [Nat.add_mul, Nat.one_mul] at h2
    rw [show off + k + i * k + f = off + (i * k + k) + f by omega]
    exact h2

end Go.Mk
