/- Rows of elements of some cells, in the words of the library's sort: no program stands in this text. -/
import Derived.Test.YtbboklmmnnedjaaMk
import Derived.Shelf.SlSortCmp.NoneTotal
set_option linter.unusedVariables false
set_option linter.unusedSimpArgs false
namespace Go.Mk
open Go.RowKit Go.Sort Go.Proofs

theorem RowMem.holdsK {α : Type} [Inhabited α] {w : World} {e : TypeId} {k g off cap : Nat} {L : List α} {enc : α → List Value} (h : RowMem w e k (L.map enc) g off cap) (hk : ∀ x, (enc x).length = k) : HoldsK enc k w g off L.toArray := by
  intro j hj
  rw [size_flatK, List.size_toArray] at hj
  have k0 : 0 < k := by
    rcases Nat.eq_zero_or_pos k with h0 | h0
    · subst h0; simp at hj
    · exact h0
  have hi : j / k < L.length := Nat.div_lt_of_lt_mul (by rw [Nat.mul_comm]; exact hj)
  have hm : j % k < k := Nat.mod_lt _ k0
  have e1 : off + j = off + j / k * k + j % k := by
    have h1 := Nat.div_add_mod j k
    rw [Nat.mul_comm] at h1
    omega
  have h2 : (L.map enc)[j / k]? = some (enc L[j / k]) := by simp [hi]
  have h3 : (enc L[j / k])[j % k]? = some ((enc L[j / k])[j % k]'(by rw [hk]; exact hm)) := by simp
  refine ⟨?_, ?_⟩
  · rw [e1, h.cell h2 h3, id_eq, get_flatK _ _ _ _ (by simpa using hj)]
    rw [getElem!_pos L.toArray (j / k) (by simpa using hi)]
    simp only [List.getElem_toArray]
    rw [getElem!_pos (enc L[j / k]) (j % k) (by rw [hk]; exact hm)]
    all_goals first | rfl | rw [hk]
  · exact h.frozen _

theorem sortWorldK_heap {α : Type} [Inhabited α] (enc : α → List Value) (k : Nat) (w : World) (g off n : Nat) (d : Array α) (os : Array Obj) : Only [g] w (sortWorldK enc k w g off n d os) := by
  refine ⟨rfl, rfl, rfl, size_sortWorldK_c enc k w g off n d os, fun i hi hn => ?_⟩
  have hs : i < (putRowK enc k (Sort.ahead w n) g off d).heap.size := by
    show i < (putRow id (Sort.ahead w n) g off _).heap.size
    rw [Sort.size_putRow]
    exact hi
  show (grow (putRowK enc k (Sort.ahead w n) g off d) os).heap[i]? = _
  rw [heap_grow_old _ os hs]
  show (w.heap.modify g _)[i]? = _
  rw [Array.getElem?_modify, if_neg (by rintro rfl; exact hn (by simp))]

theorem RowMem.sorted {α : Type} [Inhabited α] {w : World} {e : TypeId} {k g off cap : Nat} {L : List α} {enc : α → List Value} (h : RowMem w e k (L.map enc) g off cap) (hk : ∀ x, (enc x).length = k) (n : Nat) (d : Array α) (os : Array Obj) (hd : d.size = L.length) :
    RowMem (sortWorldK enc k w g off n d os) e k (d.toList.map enc) g off cap := by
  have hH := h.holdsK hk
  have hH2 := holdsK_sortWorldK_c enc k w g off L.toArray d n os hH h.lt (by simpa using hd)
  obtain ⟨cur, hb, hsz, _⟩ := h.blk
  have hs : g < (putRowK enc k (Sort.ahead w n) g off d).heap.size := by
    show g < (putRow id (Sort.ahead w n) g off _).heap.size
    rw [Sort.size_putRow]
    exact h.lt
  have hb2 : (sortWorldK enc k w g off n d os).heap[g]? = some (.cells (putCells id off (flatK enc k d) cur) e (0, 0)) := by
    show (grow (putRowK enc k (Sort.ahead w n) g off d) os).heap[g]? = _
    rw [heap_grow_old _ os hs]
    show (w.heap.modify g _)[g]? = _
    rw [Array.getElem?_modify, if_pos rfl, hb]
    rfl
  refine ⟨fun x hx => ?_, ⟨_, hb2, ?_, fun i x f v hx hv => ?_⟩, ?_, h.top⟩
  · obtain ⟨y, _, rfl⟩ := List.mem_map.1 hx
    exact hk y
  · simpa [putCells] using hsz
  · rw [← cell_of_blk hb2]
    rw [List.getElem?_map] at hx
    obtain ⟨y, hy, rfl⟩ := Option.map_eq_some_iff.1 hx
    have hi : i < d.size := by
      have := (List.getElem?_eq_some_iff.1 hy).1
      simpa using this
    have hf : f < k := by
      have := (List.getElem?_eq_some_iff.1 hv).1
      rwa [hk] at this
    have := (hH2.cell hi hf).1
    rw [this]
    have ey : d[i]! = y := by
      have h1 := (List.getElem?_eq_some_iff.1 hy).2
      rw [getElem!_pos d i hi, ← h1]
      simp
    rw [ey]
    have h2 := (List.getElem?_eq_some_iff.1 hv)
    obtain ⟨h3, h4⟩ := h2
    rw [getElem!_pos (enc y) f h3, h4]
  · have := h.fits
    simpa [hd] using this

end Go.Mk
