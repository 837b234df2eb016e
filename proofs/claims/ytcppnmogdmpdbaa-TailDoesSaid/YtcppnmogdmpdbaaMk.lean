/- Words and laws on memory that all walks of this place use: which blocks a call has changed, slices as lists of elements, maps as lists of entries. No program stands in this text. -/
import Derived.WalkKit
import Derived.WalkSpells
import Derived.WalkLawsBesides
import Derived.Lib.Hide
set_option linter.unusedVariables false
set_option linter.unusedSimpArgs false
namespace Go.Mk
open Go.RowKit

/-- Of the blocks that were there, only those in S may have changed. -/
structure Only (S : List Nat) (w w' : World) : Prop where
  os : w'.os = w.os
  tape : w'.tape = w.tape
  output : w'.output = w.output
  size : w.heap.size ≤ w'.heap.size
  block : ∀ k, k < w.heap.size → k ∉ S → w'.heap[k]? = w.heap[k]?

theorem Only.refl (S : List Nat) (w : World) : Only S w w := ⟨rfl, rfl, rfl, Nat.le_refl _, fun _ _ _ => rfl⟩
theorem Only.trans {S : List Nat} {a b c : World} (h : Only S a b) (k : Only S b c) : Only S a c :=
  ⟨k.os.trans h.os, k.tape.trans h.tape, k.output.trans h.output, Nat.le_trans h.size k.size,
   fun i hi hn => (k.block i (Nat.lt_of_lt_of_le hi h.size) hn).trans (h.block i hi hn)⟩
theorem Only.mono {S S' : List Nat} {w w' : World} (h : Only S w w') (hs : ∀ k, k ∈ S → k < w.heap.size → k ∈ S') : Only S' w w' :=
  ⟨h.os, h.tape, h.output, h.size, fun k hk hn => h.block k hk (fun hm => hn (hs k hm hk))⟩
/-- The second step may also change what is new since the first. -/
theorem Only.trans' {S S' : List Nat} {a b c : World} (h : Only S a b) (k : Only S' b c) (hs : ∀ x, x ∈ S' → x < a.heap.size → x ∈ S) : Only S a c :=
  ⟨k.os.trans h.os, k.tape.trans h.tape, k.output.trans h.output, Nat.le_trans h.size k.size,
   fun i hi hn => (k.block i (Nat.lt_of_lt_of_le hi h.size) (fun hm => hn (hs i hm hi))).trans (h.block i hi hn)⟩
theorem Only.drew {S : List Nat} {a w : World} (h : Only S a w) : Only S a w.drew := ⟨h.os, h.tape, h.output, h.size, h.block⟩
theorem Only.alloc {S : List Nat} {a w : World} (h : Only S a w) (o : Obj) : Only S a (w.alloc o) :=
  h.trans ⟨rfl, rfl, rfl, by simp, fun k hk _ => Below.heap_alloc _ _ _ hk⟩
theorem Only.setCell {S : List Nat} {a w : World} (h : Only S a w) {p : Addr} (hp : p.block ∈ S ∨ a.heap.size ≤ p.block) (u : Value) : Only S a (w.setCell p u) :=
  ⟨h.os, h.tape, h.output, by simp [World.setCell]; exact h.size, fun k hk hn => (Below.heap_setCell _ _ _ _ (by
    rintro rfl
    rcases hp with hp | hp
    · exact hn hp
    · omega)).trans (h.block k hk hn)⟩
theorem Only.setBlock {S : List Nat} {a w : World} (h : Only S a w) {b : Nat} (hp : b ∈ S ∨ a.heap.size ≤ b) (o : Obj) : Only S a (ChangeMaps.setBlock w b o) :=
  ⟨h.os, h.tape, h.output, by simp [ChangeMaps.setBlock]; exact h.size, fun k hk hn => by
    have hkb : b ≠ k := by
      rintro rfl
      rcases hp with hp | hp
      · exact hn hp
      · omega
    have h1 : (w.heap.setIfInBounds b o)[k]? = w.heap[k]? := by rw [Array.getElem?_setIfInBounds, if_neg hkb]
    exact h1.trans (h.block k hk hn)⟩
theorem Only.ofBelow {B : Nat} {w w' : World} (h : Below B w w') (hB : w.heap.size ≤ B) (S : List Nat) : Only S w w' :=
  ⟨h.os, h.tape, h.output, h.size, fun k hk _ => h.block k (by omega)⟩
theorem Only.below {S : List Nat} {w w' : World} (h : Only S w w') {B : Nat} (hB : B ≤ w.heap.size) (hs : ∀ k, k ∈ S → B ≤ k) : Below B w w' :=
  ⟨h.os, h.tape, h.output, h.size, fun k hk => h.block k (by omega) (fun hm => by have := hs k hm; omega)⟩
theorem Only.cell {S : List Nat} {w w' : World} (h : Only S w w') {a : Addr} {v : Value} (hc : w.cell? a = some v) (hn : a.block ∉ S) : w'.cell? a = some v :=
  (World.cell?_of_block (h.block a.block (World.block_lt_of_cell? w a hc) hn)).trans hc
theorem Only.blk {S : List Nat} {w w' : World} (h : Only S w w') {b : Nat} {o : Obj} (hc : w.heap[b]? = some o) (hn : b ∉ S) : w'.heap[b]? = some o :=
  (h.block b (Array.getElem?_eq_some_iff.1 hc).1 hn).trans hc
theorem Only.lt {S : List Nat} {w w' : World} (h : Only S w w') {b : Nat} (hb : b < w.heap.size) : b < w'.heap.size := Nat.lt_of_lt_of_le hb h.size

theorem lt_of_blk {w : World} {b : Nat} {o : Obj} (h : w.heap[b]? = some o) : b < w.heap.size := (Array.getElem?_eq_some_iff.1 h).1
theorem lt_of_cell {w : World} {b i : Nat} {v : Value} (h : w.cell? ⟨b, i, none⟩ = some v) : b < w.heap.size := World.block_lt_of_cell? w _ h

theorem cell_of_blk {w : World} {b i : Nat} {c : Array Value} {e : TypeId} {fr : Nat × Nat} (h : w.heap[b]? = some (.cells c e fr)) : w.cell? ⟨b, i, none⟩ = c[i]? := by
  simp [World.cell?, h]
theorem frozen_of_blk {w : World} {b i : Nat} {c : Array Value} {e : TypeId} (h : w.heap[b]? = some (.cells c e (0, 0))) : w.frozen? ⟨b, i, none⟩ = false := by
  simp [World.frozen?, h]
theorem setCell_blk {w : World} {b i : Nat} {v : Value} {c : Array Value} {e : TypeId} {fr : Nat × Nat} (h : w.heap[b]? = some (.cells c e fr)) :
    (w.setCell ⟨b, i, none⟩ v).heap[b]? = some (.cells (c.setIfInBounds i v) e fr) := by
  simp only [World.setCell, Array.getElem?_modify, ↓reduceIte, h, Option.map_some, Option.isSome_none, Bool.false_eq_true]

theorem cell_alloc {w : World} (o : Obj) {b i : Nat} {v : Value} (h : w.cell? ⟨b, i, none⟩ = some v) : (w.alloc o).cell? ⟨b, i, none⟩ = some v := ((Only.refl [] w).alloc o).cell h (by simp)
theorem frozen_alloc' {w : World} (o : Obj) {b i : Nat} (hb : b < w.heap.size) : (w.alloc o).frozen? ⟨b, i, none⟩ = w.frozen? ⟨b, i, none⟩ :=
  World.frozen?_of_block (a := ⟨b, i, none⟩) (((Only.refl [] w).alloc o).block b hb (by simp))

/-! A slice as the list of its elements, each of k cells. -/

structure RowMem (w : World) (e : TypeId) (k : Nat) (xs : List (List Value)) (g off cap : Nat) : Prop where
  wide : ∀ x ∈ xs, x.length = k
  blk : ∃ cur, w.heap[g]? = some (.cells cur e (0, 0)) ∧ off + cap * k ≤ cur.size ∧ (∀ i x f v, xs[i]? = some x → x[f]? = some v → cur[off + i * k + f]? = some v)
  fits : xs.length ≤ cap
  top : cap ≤ maxLen

/-- The slice value sv reads as the elements xs. -/
inductive SliceIs (w : World) (e : TypeId) (k : Nat) : List (List Value) → Value → Prop where
  | nil : SliceIs w e k [] (.slice none 0 0)
  | row {xs : List (List Value)} {g off cap : Nat} (h : RowMem w e k xs g off cap) : SliceIs w e k xs (.slice (some ⟨g, off, none⟩) xs.length cap)

def blockOf : Value → List Nat
  | .slice (some a) _ _ => [a.block]
  | _ => []

theorem RowMem.lt {w : World} {e : TypeId} {k : Nat} {xs : List (List Value)} {g off cap : Nat} (h : RowMem w e k xs g off cap) : g < w.heap.size := by
  obtain ⟨cur, hb, _⟩ := h.blk
  exact lt_of_blk hb
theorem RowMem.only {w w' : World} {e : TypeId} {k : Nat} {xs : List (List Value)} {g off cap : Nat} {S : List Nat} (h : RowMem w e k xs g off cap) (ho : Only S w w') (hn : g ∉ S) : RowMem w' e k xs g off cap := by
  obtain ⟨cur, hb, hr⟩ := h.blk
  exact ⟨h.wide, ⟨cur, ho.blk hb hn, hr⟩, h.fits, h.top⟩
theorem SliceIs.only {w w' : World} {e : TypeId} {k : Nat} {xs : List (List Value)} {sv : Value} {S : List Nat} (h : SliceIs w e k xs sv) (ho : Only S w w') (hn : ∀ b ∈ blockOf sv, b ∉ S) : SliceIs w' e k xs sv := by
  cases h with
  | nil => exact .nil
  | row h => exact .row (h.only ho (hn _ (by simp [blockOf])))
theorem SliceIs.lt {w : World} {e : TypeId} {k : Nat} {xs : List (List Value)} {sv : Value} (h : SliceIs w e k xs sv) : ∀ b ∈ blockOf sv, b < w.heap.size := by
  cases h with
  | nil => simp [blockOf]
  | row h => simp only [blockOf, List.mem_singleton, forall_eq]; exact h.lt
theorem RowMem.cell {w : World} {e : TypeId} {k : Nat} {xs : List (List Value)} {g off cap : Nat} (h : RowMem w e k xs g off cap) {i f : Nat} {x : List Value} {v : Value} (hx : xs[i]? = some x) (hv : x[f]? = some v) :
    w.cell? ⟨g, off + i * k + f, none⟩ = some v := by
  obtain ⟨cur, hb, _, hr⟩ := h.blk
  rw [cell_of_blk hb]
  exact hr i x f v hx hv
theorem RowMem.frozen {w : World} {e : TypeId} {k : Nat} {xs : List (List Value)} {g off cap : Nat} (h : RowMem w e k xs g off cap) (i : Nat) : w.frozen? ⟨g, i, none⟩ = false := by
  obtain ⟨cur, hb, _⟩ := h.blk
  exact frozen_of_blk hb
/-- One cell of an element is written. -/
theorem RowMem.setCell {w : World} {e : TypeId} {k : Nat} {xs : List (List Value)} {g off cap : Nat} (h : RowMem w e k xs g off cap) {i f : Nat} {x : List Value} (hx : xs[i]? = some x) (hf : f < k) (v : Value) :
    RowMem (w.setCell ⟨g, off + i * k + f, none⟩ v) e k (xs.set i (x.set f v)) g off cap := by
  obtain ⟨cur, hb, hc, hr⟩ := h.blk
  have hxk : x.length = k := h.wide x (List.mem_of_getElem? hx)
  refine ⟨fun y hy => ?_, ⟨_, setCell_blk hb, by simpa using hc, ?_⟩, by simpa using h.fits, h.top⟩
  · rcases List.mem_or_eq_of_mem_set hy with h1 | h1
    · exact h.wide y h1
    · rw [h1, List.length_set]; exact hxk
  · intro j y q u hj hq
    rw [Array.getElem?_setIfInBounds]
    have hil : i < xs.length := (List.getElem?_eq_some_iff.1 hx).1
    by_cases hij : i = j
    · subst hij
      rw [List.getElem?_set_self hil] at hj
      cases hj
      by_cases hfq : f = q
      · subst hfq
        rw [List.getElem?_set_self (by omega)] at hq
        cases hq
        have hlt : off + i * k + f < cur.size := by
          have h1 := h.fits
          have h2 : (i + 1) * k ≤ cap * k := Nat.mul_le_mul_right k (by omega)
          have h3 : (i + 1) * k = i * k + k := by rw [Nat.add_mul, Nat.one_mul]
          omega
        simp [hlt]
      · rw [List.getElem?_set_ne hfq] at hq
        rw [if_neg (by omega)]
        exact hr i x q u hx hq
    · rw [List.getElem?_set_ne hij] at hj
      have hqk : q < k := by
        have h1 := h.wide y (List.mem_of_getElem? hj)
        have h2 := (List.getElem?_eq_some_iff.1 hq).1
        omega
      have hne : off + i * k + f ≠ off + j * k + q := by
        intro he
        rcases Nat.lt_or_gt_of_ne hij with hlt | hgt
        · have h2 : (i + 1) * k ≤ j * k := Nat.mul_le_mul_right k (by omega)
          have h3 : (i + 1) * k = i * k + k := by rw [Nat.add_mul, Nat.one_mul]
          omega
        · have h2 : (j + 1) * k ≤ i * k := Nat.mul_le_mul_right k (by omega)
          have h3 : (j + 1) * k = j * k + k := by rw [Nat.add_mul, Nat.one_mul]
          omega
      rw [if_neg hne]
      exact hr j y q u hj hq

end Go.Mk
