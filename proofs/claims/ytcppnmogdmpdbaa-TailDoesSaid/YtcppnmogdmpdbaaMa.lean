/- Laws on slices that the program itself made: what append does to a slice as a list of elements. No program stands in this text. -/
import Derived.Test.YtcppnmogdmpdbaaMm
set_option linter.unusedVariables false
set_option linter.unusedSimpArgs false
namespace Go.Mk
open Go.RowKit

theorem flat_get {k : Nat} : ∀ {xs : List (List Value)} {i f : Nat} {x : List Value} {v : Value}, (∀ x ∈ xs, x.length = k) → xs[i]? = some x → x[f]? = some v → xs.flatten[i * k + f]? = some v
  | [], i, f, x, v, _, h, _ => by simp at h
  | y :: ys, 0, f, x, v, hw, h, hf => by
    simp only [List.getElem?_cons_zero, Option.some.injEq] at h
    subst h
    rw [List.flatten_cons, Nat.zero_mul, Nat.zero_add, List.getElem?_append_left (List.getElem?_eq_some_iff.1 hf).1]
    exact hf
  | y :: ys, i + 1, f, x, v, hw, h, hf => by
    simp only [List.getElem?_cons_succ] at h
    have hy : y.length = k := hw y (by simp)
    rw [List.flatten_cons, Nat.add_mul, Nat.one_mul, List.getElem?_append_right (by omega)]
    rw [show i * k + k + f - y.length = i * k + f by omega]
    exact flat_get (fun x hx => hw x (by simp [hx])) h hf

theorem flat_len {k : Nat} : ∀ {xs : List (List Value)}, (∀ x ∈ xs, x.length = k) → xs.flatten.length = xs.length * k
  | [], _ => by simp
  | y :: ys, hw => by
    rw [List.flatten_cons, List.length_append, hw y (by simp), flat_len (fun x hx => hw x (by simp [hx])), List.length_cons, Nat.add_mul]
    omega

theorem RowMem.flat {w : World} {e : TypeId} {k : Nat} {xs : List (List Value)} {g off cap : Nat} (h : RowMem w e k xs g off cap) : ∀ j v, xs.flatten[j]? = some v → w.cell? ((⟨g, off, none⟩ : Addr).add j) = some v := by
  intro j v hj
  have hlen := flat_len h.wide
  have hjl := (List.getElem?_eq_some_iff.1 hj).1
  have hadd : (⟨g, off, none⟩ : Addr).add j = ⟨g, off + j, none⟩ := by unfold Addr.add; split <;> simp_all
  rw [hadd]
  have hk : 0 < k := by
    rcases Nat.eq_zero_or_pos k with rfl | h0
    · omega
    · exact h0
  have hi : j / k < xs.length := by rw [Nat.div_lt_iff_lt_mul hk]; omega
  have hf : j % k < k := Nat.mod_lt _ hk
  have hxi := h.wide _ (List.getElem_mem hi)
  have hx : xs[j / k]? = some xs[j / k] := List.getElem?_eq_getElem hi
  have hv : (xs[j / k])[j % k]? = some (xs[j / k])[j % k] := List.getElem?_eq_getElem (by omega)
  have h2 := flat_get h.wide hx hv
  have hj2 : j / k * k + j % k = j := Nat.div_add_mod' j k
  rw [hj2, hj] at h2
  cases h2
  have h3 := h.cell hx hv
  rw [show off + j / k * k + j % k = off + j by omega] at h3
  exact h3

theorem rowMem_new {w : World} {e : TypeId} {k : Nat} {xs : List (List Value)} {rest : Array Value} {cap : Nat} (hw : ∀ x ∈ xs, x.length = k) (hcap : xs.length ≤ cap) (hm : cap ≤ maxLen)
    (hs : xs.length * k + rest.size = cap * k) : RowMem (w.alloc (.cells (xs.flatten.toArray ++ rest) e)) e k xs w.heap.size 0 cap := by
  refine ⟨hw, ⟨_, heap_alloc_new w _, ?_, ?_⟩, hcap, hm⟩
  · simp only [Array.size_append, List.size_toArray, flat_len hw]; omega
  · intro i x f v hx hf
    have h1 := flat_get hw hx hf
    have hlt := (List.getElem?_eq_some_iff.1 h1).1
    rw [Nat.zero_add, Array.getElem?_append_left (by simpa using hlt)]
    simpa using h1

section
variable {P : Program} {w : World}

theorem run_append_room_off (t ty e : TypeId) (i : TypeInfo) (ht : P.underlying t = some (.slice e)) (hi : P.info? e = some i)
    (g off sLen sCap : Nat) (cur : Array Value) (hg : w.heap[g]? = some (.cells cur e (0, 0)))
    (a : Addr) (m c : Nat) (news : List Value) (hl : news.length = m * i.size) (hnews : ∀ j u, news[j]? = some u → w.cell? (a.add j) = some u) (h1 : ∀ u ∈ news, u.oneCell' = true)
    (hroom : sLen + m ≤ sCap) (hfit : off + sLen * i.size + news.length ≤ cur.size) :
    (Builtin.append_ #[t, t] ty #[.slice (some ⟨g, off, none⟩) sLen sCap, .slice (some a) m c]).run P w =
      .ok (.slice (some ⟨g, off, none⟩) (sLen + m) sCap) (w.setRow g (cur.toList.take (off + sLen * i.size) ++ news ++ cur.toList.drop (off + sLen * i.size + news.length)).toArray) := by
  have hf := run_firstCells_some (P := P) w i.size m a m c news hl hnews
  have hst := run_storeCells_at P g (off + sLen * i.size) e news 0 cur w hg (by simpa using hfit) h1
  simp only [Nat.add_zero] at hst
  have hadd : (⟨g, off, none⟩ : Addr).add (sLen * i.size) = ⟨g, off + sLen * i.size, none⟩ := by unfold Addr.add; split <;> simp_all
  simp [Builtin.append_, run_underlying ht, sizeOf, typeInfo, hi, Builtin.lenOf, hroom, hf, hadd, hst]

theorem only_setRow (g : Nat) (cs : Array Value) : Only [g] w (w.setRow g cs) :=
  ⟨rfl, rfl, rfl, by simp [World.setRow], fun k _ hn => setRow_other w g k cs (fun he => hn (by simp [he]))⟩

theorem run_append_is {t ty e : TypeId} {i : TypeInfo} {z : Value} {k bytes : Nat} (ht : P.underlying t = some (.slice e)) (hi : P.info? e = some i) (hz : i.zero = some z)
    (hsize : i.size = k) (hby : i.bytes = bytes) (hzs : z.cells.size = k)
    {xs : List (List Value)} {sv : Value} (h : SliceIs w e k xs sv) {a : Addr} {m c : Nat} {news : List (List Value)} (hm : news.length = m) (hw : ∀ x ∈ news, x.length = k)
    (hnews : ∀ j v, news.flatten[j]? = some v → w.cell? (a.add j) = some v) (h1 : ∀ u ∈ news.flatten, u.oneCell' = true)
    (h0 : 0 < m) (h63 : xs.length + m ≤ maxLen) (hbytes : (xs.length + m) * bytes ≤ 140737488355328) :
    ∃ g off cap' w', (Builtin.append_ #[t, t] ty #[sv, .slice (some a) m c]).run P w = .ok (.slice (some ⟨g, off, none⟩) (xs.length + m) cap') w' ∧ RowMem w' e k (xs ++ news) g off cap' ∧ Only (blockOf sv) w w' ∧
      (g ∈ blockOf sv ∨ w.heap.size ≤ g) := by
  subst hsize hby hm
  have hnl := flat_len hw
  have grown : ∀ (n : Nat), (∀ x ∈ xs, x.length = i.size) → n = xs.length + news.length → ∀ old, RowMem (w.drew.alloc (.cells ((xs ++ news).flatten.toArray ++ Builtin.zeroCells z.cells (grownCap w n old e - n)) e)) e i.size (xs ++ news) w.heap.size 0 (grownCap w n old e) := by
    intro n hxw hn old
    have hge := grownCap_ge w n old e
    refine rowMem_new (w := w.drew) (fun x hx => ?_) (by rw [List.length_append]; omega) (grownCap_le_maxLen w n old e (by omega)) ?_
    · rcases List.mem_append.1 hx with hx | hx
      · exact hxw x hx
      · exact hw x hx
    · rw [size_zeroCells, hzs, List.length_append, ← hn, ← Nat.add_mul]
      congr 1
      omega
  cases h with
  | nil =>
    have hr := run_append_nil (P := P) w t ty e i z ht hi hz a news.length c news.flatten hnl hnews h0 (by simp only [maxLen] at h63; simp only [List.length_nil] at h63; omega)
      (by simp only [List.length_nil, Nat.zero_add] at hbytes; omega)
    have hg := grown news.length (by simp) (by simp) 0
    simp only [List.nil_append] at hg
    simp only [List.nil_append, List.length_nil, Nat.zero_add]
    exact ⟨_, _, _, _, hr, hg, (Only.refl _ _).drew.alloc _, .inr (Nat.le_refl _)⟩
  | @row _ g off cap hrow =>
    obtain ⟨cur, hb, hc, hget⟩ := hrow.blk
    by_cases hroom : xs.length + news.length ≤ cap
    · have hmul : (xs.length + news.length) * i.size ≤ cap * i.size := Nat.mul_le_mul_right _ hroom
      rw [Nat.add_mul] at hmul
      have hfit : off + xs.length * i.size + news.flatten.length ≤ cur.size := by rw [hnl]; omega
      have hr := run_append_room_off (P := P) (w := w) t ty e i ht hi g off xs.length cap cur hb a news.length c news.flatten hnl hnews h1 hroom hfit
      refine ⟨_, _, _, _, hr, ?_, by simpa [blockOf] using only_setRow g _, .inl (by simp [blockOf])⟩
      refine ⟨fun x hx => ?_, ⟨_, setRow_heap w g cur _ e _ hb, ?_, ?_⟩, by rw [List.length_append]; exact hroom, hrow.top⟩
      · rcases List.mem_append.1 hx with hx | hx
        · exact hrow.wide x hx
        · exact hw x hx
      · simp only [List.size_toArray, List.length_append, List.length_take, List.length_drop, Array.length_toList]
        omega
      · intro q x f v hx hf
        rw [List.getElem?_toArray]
        by_cases hq : q < xs.length
        · rw [List.getElem?_append_left hq] at hx
          have hfk : f < i.size := by have := hrow.wide x (List.mem_of_getElem? hx); have := (List.getElem?_eq_some_iff.1 hf).1; omega
          have hle : (q + 1) * i.size ≤ xs.length * i.size := Nat.mul_le_mul_right _ (by omega)
          rw [Nat.add_mul, Nat.one_mul] at hle
          have h5 := hget q x f v hx hf
          rw [List.append_assoc, List.getElem?_append_left (by simp only [List.length_take, Array.length_toList]; omega), List.getElem?_take, if_pos (by omega)]
          simpa using h5
        · rw [List.getElem?_append_right (by omega)] at hx
          have h5 := flat_get hw hx hf
          have hlt := (List.getElem?_eq_some_iff.1 h5).1
          have hql := (List.getElem?_eq_some_iff.1 hx).1
          have hmulq : q * i.size = xs.length * i.size + (q - xs.length) * i.size := by rw [← Nat.add_mul]; congr 1; omega
          have htl : (cur.toList.take (off + xs.length * i.size)).length = off + xs.length * i.size := by simp only [List.length_take, Array.length_toList]; omega
          rw [List.append_assoc, List.getElem?_append_right (by rw [htl]; omega), htl, List.getElem?_append_left (by omega)]
          rw [show off + q * i.size + f - (off + xs.length * i.size) = (q - xs.length) * i.size + f by omega]
          exact h5
    · have hr := run_append_grow (P := P) w t ty e i z ht hi hz ⟨g, off, none⟩ xs.length cap xs.flatten (flat_len hrow.wide) hrow.flat a news.length c news.flatten hnl hnews (by omega) (by simp only [maxLen] at h63; omega) (growslice_fits (by omega) hbytes)
      have hg := grown (xs.length + news.length) hrow.wide rfl cap
      rw [List.flatten_append, ← List.append_toArray] at hg
      exact ⟨_, _, _, _, hr, hg, (Only.refl _ _).drew.alloc _, .inr (Nat.le_refl _)⟩
end

theorem run_make_is {P : Program} {w : World} {t e : TypeId} {i : TypeInfo} {z : Value} {k bytes : Nat} (ht : P.underlying t = some (.slice e)) (hi : P.info? e = some i) (hz : i.zero = some z)
    (hsize : i.size = k) (hby : i.bytes = bytes) (hzs : z.cells.size = k) (n : Nat) (hn : n ≤ 1000000) (hb : bytes ≤ 1000) :
    ∃ o, (Instr.makeSlice t (.int .i64 n) (.int .i64 n)).run P w = .ok (.slice (some ⟨w.heap.size, 0, none⟩) n n) (w.alloc o) ∧ RowMem (w.alloc o) e k (List.replicate n z.cells.toList) w.heap.size 0 n := by
  subst hsize hby
  have hmul : i.bytes * n ≤ 1000 * 1000000 := Nat.mul_le_mul hb hn
  have hb' : (i.bytes : Int) * (n : Int) ≤ 281474976710656 := by
    have h : ((i.bytes * n : Nat) : Int) ≤ 281474976710656 := by omega
    rwa [Int.natCast_mul] at h
  have hr := run_make (P := P) w t e i z ht hi hz .i64 .i64 n n (by omega) (Int.le_refl _) hb' (by omega)
  simp only [Int.toNat_natCast] at hr
  refine ⟨_, hr, ⟨fun x hx => ?_, ⟨_, heap_alloc_new w _, ?_, ?_⟩, by simp, by simp only [maxLen]; omega⟩⟩
  · rw [(List.mem_replicate.1 hx).2]; simpa using hzs
  · rw [size_madeCells]; omega
  · intro q x f v hx hv
    have hq := (List.getElem?_eq_some_iff.1 hx).1
    rw [List.length_replicate] at hq
    rw [List.getElem?_replicate, if_pos hq] at hx
    cases hx
    have hf := (List.getElem?_eq_some_iff.1 hv).1
    rw [Array.length_toList, hzs] at hf
    have hlt : q * i.size + f < n * i.size := by
      have h2 : (q + 1) * i.size ≤ n * i.size := Nat.mul_le_mul_right _ (by omega)
      rw [Nat.add_mul, Nat.one_mul] at h2
      omega
    have hmod : (q * i.size + f) % i.size = f := by rw [Nat.mul_comm, Nat.mul_add_mod, Nat.mod_eq_of_lt hf]
    simp only [madeCells, Nat.zero_add, Array.getElem?_map]
    rw [Array.getElem?_range]
    simp only [hlt, ↓reduceIte, Option.map_some, hzs, hmod]
    rw [Array.getElem?_toList] at hv
    rw [getElem!_def, hv]

/-- A block that was made ahead of the call, and is none of those that the call may change. -/
theorem Only.newblk {S : List Nat} {w w' : World} {o : Obj} (h : Only S (w.alloc o) w') (hs : ∀ b ∈ S, b < w.heap.size) : w'.heap[w.heap.size]? = some o :=
  h.blk (heap_alloc_new w o) (fun hm => by have := hs _ hm; omega)

theorem no_map_cells {w : World} {b b' i : Nat} {v : Value} {es : Array MapEntry} {c : Nat} (h : w.cell? ⟨b, i, none⟩ = some v) (hm : w.heap[b']? = some (.map es c)) : b' ≠ b := by
  rintro rfl
  simp [World.cell?, hm] at h
theorem no_map_row {w : World} {e k : Nat} {xs : List (List Value)} {sv : Value} {b' : Nat} {es : Array MapEntry} {c : Nat} (h : SliceIs w e k xs sv) (hm : w.heap[b']? = some (.map es c)) : b' ∉ blockOf sv := by
  cases h with
  | nil => simp [blockOf]
  | row hr =>
    obtain ⟨cur, hb, _⟩ := hr.blk
    simp only [blockOf, List.mem_singleton]
    rintro rfl
    rw [hm] at hb
    cases hb
theorem SliceIs.form {w : World} {e k : Nat} {xs : List (List Value)} {sv : Value} (h : SliceIs w e k xs sv) : ∃ p cap, sv = .slice p xs.length cap := by
  cases h with
  | nil => exact ⟨none, 0, rfl⟩
  | row hr => exact ⟨_, _, rfl⟩


end Go.Mk
