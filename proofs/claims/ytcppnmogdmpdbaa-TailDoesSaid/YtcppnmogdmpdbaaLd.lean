/- Rows of the document's traces and of their spans, one more at the end: no walk stands in this text. -/
import Derived.Test.YtcppnmogdmpdbaaLb
set_option linter.unusedVariables false
set_option linter.unusedSimpArgs false
namespace Go.Proofs.Ytcppnmogdmpdbaa
open Go.RowKit Go.Mk Go.Hp
attribute [-go_sem] Builtin.append_

theorem info_rtrace : ∃ i, Try.prog.info? 133 = some i ∧ i.zero = some (.agg #[.int .i64 0, .int .i64 0, .int .u64 0, .int .u64 0, .slice none 0 0]) ∧ i.size = 5 ∧ i.bytes = 56 := by
  obtain ⟨i0, hi, hz0, hz1, hz2⟩ := info_parts (P := Try.prog) (e := 133) (z := .agg #[.int .i64 0, .int .i64 0, .int .u64 0, .int .u64 0, .slice none 0 0]) (size := 5) (bytes := 56) (by kernel_rfl)
  exact ⟨i0, hi, hz0, hz1, hz2⟩

/-- All spans of a row, taken in by an empty one. -/
theorem span_copy {w : World} {S : List Sp} {p : Option Addr} {c : Nat} (hm : SliceIs w 65 10 (S.map Sp.cells) (.slice p S.length c)) (hl : S.length ≤ 50000) :
    ∃ g cap' w', (Builtin.append_ #[69, 69] 69 #[.slice none 0 0, .slice p S.length c]).run Try.prog w = .ok (.slice g S.length cap') w' ∧
      SliceIs w' 65 10 (S.map Sp.cells) (.slice g S.length cap') ∧ Only [] w w' ∧ ∀ x ∈ blockOf (.slice g S.length cap'), w.heap.size ≤ x := by
  obtain ⟨i0, z0, hi0, hz0, hz1, hz2, hz3⟩ := info_span
  have h2 := rows_append (P := Try.prog) (bytes := i0.bytes) Try.underlying69 hi0 hz0 hz1 rfl hz3 hz2 (xs := []) (ys := S.map Sp.cells) (sv := .slice none 0 0) (p := p) (c := c) SliceIs.nil (by rw [List.length_map]; exact hm) (by rw [List.length_map]; simp; omega)
    (by
      intro y hy u hu
      obtain ⟨s, _, rfl⟩ := List.mem_map.1 hy
      revert u
      simp [Sp.cells, Value.oneCell'])
  simp only [List.length_nil, List.length_map, Nat.zero_add, List.nil_append] at h2
  obtain ⟨g, cap', w', hap, hsl, ho, hg⟩ := h2
  exact ⟨g, cap', w', hap, hsl, ho, fun x hx => (hg x hx).resolve_left (by simp [blockOf])⟩

/-- One span more. -/
theorem span_one {w : World} {S : List Sp} {sv : Value} (h : SliceIs w 65 10 (S.map Sp.cells) sv) (hl : S.length ≤ 50000) (s : Sp) :
    ∃ g off cap' w', (Builtin.append_ #[69, 69] 69 #[sv, .slice (some ⟨w.heap.size, 0, none⟩) 1 1]).run Try.prog (w.alloc (.cells s.arr 65)) = .ok (.slice (some ⟨g, off, none⟩) (S.length + 1) cap') w' ∧
      SliceIs w' 65 10 ((S ++ [s]).map Sp.cells) (.slice (some ⟨g, off, none⟩) (S.length + 1) cap') ∧ Only (blockOf sv) w w' ∧ (g ∈ blockOf sv ∨ w.heap.size ≤ g) := by
  obtain ⟨i0, z0, hi0, hz0, hz1, hz2, hz3⟩ := info_span
  have h2 := row_append1 (P := Try.prog) Try.underlying69 hi0 hz0 hz1 rfl hz3 hz2 h (by rw [List.length_map]; omega) s.arr rfl (by simp [Sp.arr, Value.oneCell'])
  rw [List.length_map] at h2
  obtain ⟨g, off, cap', w', hap, hsl, ho, hg⟩ := h2
  exact ⟨g, off, cap', w', hap, by rw [List.map_append]; exact hsl, ho, hg⟩

/-- A new block that holds one element. -/
theorem one_new {w : World} {e k : Nat} {cs : Array Value} (hc : cs.size = k) : SliceIs (w.alloc (.cells cs e)) e k [cs.toList] (.slice (some ⟨w.heap.size, 0, none⟩) 1 1) := by
  have h1 : RowMem (w.alloc (.cells cs e)) e k [cs.toList] w.heap.size 0 1 := by
    refine ⟨by simpa using hc, ⟨cs, heap_alloc_new w _, by omega, fun i x f v hi hv => ?_⟩, by simp, by simp [maxLen]⟩
    cases i with
    | zero => cases hi; simpa using hv
    | succ i => simp at hi
  exact SliceIs.row h1

/-- A new row of traces, with the rows of their spans beside it. -/
structure LQ (n0 : Nat) (w : World) (Q : List (Ab × Value)) (lv : Value) : Prop where
  l : SliceIs w 133 5 (Q.map encP) lv
  new : ∀ b ∈ blockOf lv, n0 ≤ b
  s : ∀ q ∈ Q, SliceIs w 65 10 (q.1.sps.map Sp.cells) q.2 ∧ ∀ b ∈ blockOf q.2, b ∉ blockOf lv

theorem LQ.nil (n0 : Nat) (w : World) : LQ n0 w [] (.slice none 0 0) := ⟨.nil, by simp [blockOf], by simp⟩
theorem LQ.only {n0 : Nat} {w w' : World} {Q : List (Ab × Value)} {lv : Value} {S : List Nat} (h : LQ n0 w Q lv) (ho : Only S w w') (h1 : ∀ b ∈ blockOf lv, b ∉ S) (h2 : ∀ q ∈ Q, ∀ b ∈ blockOf q.2, b ∉ S) : LQ n0 w' Q lv :=
  ⟨h.l.only ho h1, h.new, fun q hq => ⟨(h.s q hq).1.only ho (h2 q hq), (h.s q hq).2⟩⟩
/-- A change of blocks that were made behind the row. -/
theorem LQ.over {n0 : Nat} {w w' : World} {Q : List (Ab × Value)} {lv : Value} {S : List Nat} (h : LQ n0 w Q lv) (ho : Only S w w') (hS : ∀ b ∈ S, w.heap.size ≤ b) : LQ n0 w' Q lv :=
  h.only ho (fun b hb hs => by have := h.l.lt b hb; have := hS b hs; omega) (fun q hq b hb hs => by have := (h.s q hq).1.lt b hb; have := hS b hs; omega)

/-- One trace more. -/
theorem trace_push {n0 : Nat} {w : World} {Q : List (Ab × Value)} {lv : Value} (h : LQ n0 w Q lv) (hn0 : n0 ≤ w.heap.size) (hl : Q.length ≤ 50000) (a : Ab) {sp : Option Addr} {m sc : Nat}
    (hs : SliceIs w 65 10 (a.sps.map Sp.cells) (.slice sp m sc)) (hd : ∀ b ∈ blockOf (.slice sp m sc), b ∉ blockOf lv) :
    ∃ g off cap' w', (Builtin.append_ #[85, 85] 85 #[lv, .slice (some ⟨w.heap.size, 0, none⟩) 1 1]).run Try.prog (w.alloc (.cells #[.int .i64 a.due, .int .i64 a.no, .int .u64 a.tr.1, .int .u64 a.tr.2, .slice sp m sc] 133)) = .ok (.slice (some ⟨g, off, none⟩) (Q.length + 1) cap') w' ∧
      LQ n0 w' (Q ++ [(a, .slice sp m sc)]) (.slice (some ⟨g, off, none⟩) (Q.length + 1) cap') ∧ Only (blockOf lv) w w' := by
  obtain ⟨i0, hi0, hz0, hz1, hz2⟩ := info_rtrace
  have h2 := row_append1 (P := Try.prog) Try.underlying85 hi0 hz0 hz1 hz2 rfl (by omega) h.l (by rw [List.length_map]; omega) #[.int .i64 a.due, .int .i64 a.no, .int .u64 a.tr.1, .int .u64 a.tr.2, .slice sp m sc] rfl (by simp [Value.oneCell'])
  rw [List.length_map] at h2
  obtain ⟨g, off, cap', w', hap, hsl, ho, hg⟩ := h2
  refine ⟨g, off, cap', w', hap, ⟨by rw [List.map_append]; exact hsl, ?_, ?_⟩, ho⟩
  · intro b hb
    simp only [blockOf, List.mem_singleton] at hb
    subst hb
    rcases hg with hg | hg
    · exact h.new _ hg
    · omega
  · have hx : ∀ (S : List (List Value)) (v : Value), SliceIs w 65 10 S v → (∀ b ∈ blockOf v, b ∉ blockOf lv) → SliceIs w' 65 10 S v ∧ ∀ b ∈ blockOf v, b ∉ blockOf (.slice (some ⟨g, off, none⟩) (Q.length + 1) cap') := by
      intro S v hv hb
      refine ⟨hv.only ho hb, fun b hb1 hb2 => ?_⟩
      simp only [blockOf, List.mem_singleton] at hb2
      subst hb2
      rcases hg with hg | hg
      · exact hb _ hb1 hg
      · have := hv.lt _ hb1; omega
    intro q hq
    rcases List.mem_append.1 hq with hq | hq
    · exact hx _ _ (h.s q hq).1 (h.s q hq).2
    · rw [List.mem_singleton.1 hq]
      exact hx _ _ hs hd

/-- What Offer answers, in words of lists. -/
def saysA (K : List Dec) (A : List Ab) (most : Int) (t : Tr) : Int := match asc K t with
  | some true => 4
  | some false => 3
  | none => if most ≤ (spansA A : Int) then 2 else 1
/-- What Offer leaves. -/
def afterA (says : Int) (A : List Ab) (came due : Int) (s : Sp) : List Ab := if says = 1 then takeA A came due s else A
def afterC (says : Int) (A : List Ab) (came : Int) (t : Tr) : Int := if says = 1 then cameA A came t else came

def mif (s : Sp) (a : Ab) : Ab := if a.tr = s.tr then a.more s else a
theorem take_found {A : List Ab} {came due : Int} {s : Sp} (h : s.tr ∈ A.map (·.tr)) : takeA A came due s = A.map (mif s) ∧ cameA A came s.tr = came := by
  unfold takeA cameA
  rw [if_pos h, if_pos h]
  exact ⟨rfl, rfl⟩
theorem take_new {A : List Ab} {came due : Int} {s : Sp} (h : s.tr ∉ A.map (·.tr)) : takeA A came due s = A.map (mif s) ++ [⟨came, due, s.tr, [s]⟩] ∧ cameA A came s.tr = came + 1 := by
  unfold takeA cameA
  rw [if_neg h, if_neg h]
  refine ⟨?_, rfl⟩
  congr 1
  refine (List.map_id A).symm.trans (List.map_congr_left (fun a ha => ?_))
  unfold mif
  rw [if_neg (fun he => h (by rw [← he]; exact List.mem_map_of_mem ha))]
  rfl
theorem spans_one {P : List (Ab × Value)} {i : Nat} {p : Ab × Value} (h : P[i]? = some p) : p.1.sps.length ≤ spansA (P.map (·.1)) := by
  have h1 := spans_le (P.map (·.1)) (i + 1)
  rw [List.take_add_one, List.getElem?_map, h, spans_app] at h1
  simp only [Option.map_some, Option.toList_some] at h1
  have h2 : spansA [p.1] = p.1.sps.length := by simp [spansA]
  omega
/-- The places of a box, one after the other. -/
theorem blk_cells {w : World} {b : Nat} {T : TypeId} {r : Nat × Nat} {A : Array Value} (h : w.heap[b]? = some (.cells A T r)) : ∀ (j : Nat) (v : Value), A[j]? = some v → w.cell? ⟨b, j, none⟩ = some v := by
  intro j v hj
  rw [cell_of_blk h]
  exact hj
end Go.Proofs.Ytcppnmogdmpdbaa
