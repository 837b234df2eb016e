/- The document's answer of layer 11, walked: order. -/
import Derived.Test.YtbboklmmnnedjaaUe
import Derived.Test.YtbboklmmnnedjaaMw
set_option linter.unusedVariables false
set_option linter.unusedSimpArgs false
namespace Go.Pr
/-- A place goes in ahead of the first one that it is above. -/
def ordI (A : Nat → Nat → Bool) (i : Nat) : List Nat → List Nat
  | [] => [i]
  | j :: R => if A i j then i :: j :: R else j :: ordI A i R
theorem ordI_at {A : Nat → Nat → Bool} {i : Nat} : ∀ {O : List Nat} {k : Nat}, k ≤ O.length → (∀ q x, q < k → O[q]? = some x → A i x = false) → (∀ x, O[k]? = some x → A i x = true) → ordI A i O = O.take k ++ i :: O.drop k
  | [], k, hk, _, _ => by
    simp at hk
    subst hk
    rfl
  | j :: R, 0, _, _, h => by
    have := h j rfl
    simp [ordI, this]
  | j :: R, k + 1, hk, h1, h2 => by
    have hj := h1 0 j (by omega) rfl
    have := ordI_at (A := A) (i := i) (O := R) (k := k) (by simpa using hk) (fun q x hq hx => h1 (q + 1) x (by omega) (by simpa using hx)) (fun x hx => h2 x (by simpa using hx))
    simp [ordI, hj, this]
theorem ordI_len (A : Nat → Nat → Bool) (i : Nat) : ∀ O : List Nat, (ordI A i O).length = O.length + 1
  | [] => rfl
  | j :: R => by
    unfold ordI
    split
    · rfl
    · simp [ordI_len A i R]
theorem ordI_perm (A : Nat → Nat → Bool) (i : Nat) : ∀ O : List Nat, (ordI A i O).Perm (i :: O)
  | [] => List.Perm.refl _
  | j :: R => by
    unfold ordI
    split
    · exact List.Perm.refl _
    · exact ((ordI_perm A i R).cons j).trans (List.Perm.swap ..)
def orderN (A : Nat → Nat → Bool) : Nat → List Nat
  | 0 => []
  | n + 1 => ordI A n (orderN A n)
theorem orderN_perm (A : Nat → Nat → Bool) : ∀ n, (orderN A n).Perm (List.range n)
  | 0 => List.Perm.refl _
  | n + 1 => by
    rw [List.range_succ]
    exact (ordI_perm A n _).trans (((orderN_perm A n).cons n).trans (List.perm_append_singleton n _).symm)
theorem orderN_len (A : Nat → Nat → Bool) (n : Nat) : (orderN A n).length = n := by rw [(orderN_perm A n).length_eq, List.length_range]
theorem orderN_mem {A : Nat → Nat → Bool} {n x : Nat} : x ∈ orderN A n ↔ x < n := by rw [(orderN_perm A n).mem_iff, List.mem_range]
/-- Which of some is above which. -/
def abL (L : List (Nat × Nat)) (i j : Nat) : Bool := aboveN (L.getD i (0, 0)).1 (L.getD i (0, 0)).2 (L.getD j (0, 0)).1 (L.getD j (0, 0)).2
theorem abL_of {L : List (Nat × Nat)} {i j : Nat} {x y : Nat × Nat} (hi : L[i]? = some x) (hj : L[j]? = some y) : abL L i j = aboveN x.1 x.2 y.1 y.2 := by
  unfold abL
  simp [List.getD, hi, hj]
end Go.Pr

namespace Go.Proofs.Ytbboklmmnnedjaa
open Go.RowKit Go.Mk Go.Pr
attribute [-go_sem] Builtin.append_ sliced

def encN (i : Nat) : List Value := [.int .i64 i]
theorem rinfo_int : ∃ i, Try.prog.info? 3 = some i ∧ i.zero = some (.int .i64 0) ∧ i.size = 1 ∧ i.bytes = 8 := by
  obtain ⟨i0, hi, hz0, hz1, hz2⟩ := info_parts (P := Try.prog) (e := 3) (z := .int .i64 0) (size := 1) (bytes := 8) (by kernel_rfl)
  exact ⟨i0, hi, hz0, hz1, hz2⟩

theorem int_append {w : World} {xs : List (List Value)} {sv : Value} (h : SliceIs w 3 1 xs sv) (hl : xs.length ≤ 100000) (x : Nat) :
    ∃ g off cap' w', (Builtin.append_ #[49, 49] 49 #[sv, .slice (some ⟨w.heap.size, 0, none⟩) 1 1]).run Try.prog (w.alloc (.cells #[.int .i64 x] 3)) = .ok (.slice (some ⟨g, off, none⟩) (xs.length + 1) cap') w' ∧
      SliceIs w' 3 1 (xs ++ [encN x]) (.slice (some ⟨g, off, none⟩) (xs.length + 1) cap') ∧ Only (blockOf sv) w w' ∧ (g ∈ blockOf sv ∨ w.heap.size ≤ g) := by
  obtain ⟨i0, hi0, hz0, hz1, hz2⟩ := rinfo_int
  exact row_append1 Try.underlying49 hi0 hz0 hz1 hz2 rfl (by decide) h hl #[.int .i64 x] rfl (by simp [Value.oneCell'])

theorem cut_ints {w : World} {xs : List (List Value)} {O : List Nat} {sv : Value} {p : Option Addr} {n c l r : Nat} (h : SliceIs w 3 1 xs sv) (hm : SliceIs w 3 1 (O.map encN) (.slice p n c)) (hlr : l ≤ r) (hr : r ≤ O.length) (hl : xs.length + O.length ≤ 100000) :
    ∃ g cap' w', (Builtin.append_ #[49, 49] 49 #[sv, sliced p l r c 1]).run Try.prog w = .ok (.slice g (xs.length + (r - l)) cap') w' ∧
      SliceIs w' 3 1 (xs ++ ((O.take r).drop l).map encN) (.slice g (xs.length + (r - l)) cap') ∧ Only (blockOf sv) w w' ∧ (∀ x ∈ blockOf (.slice g (xs.length + (r - l)) cap'), x ∈ blockOf sv ∨ w.heap.size ≤ x) := by
  obtain ⟨i0, hi0, hz0, hz1, hz2⟩ := rinfo_int
  have := cut_append (P := Try.prog) Try.underlying49 hi0 hz0 hz1 hz2 rfl (by decide) h hm hlr (by simpa using hr) (by simpa using hl) (by
    intro y hy u hu
    obtain ⟨x, _, rfl⟩ := List.mem_map.1 hy
    simp only [encN, List.mem_singleton] at hu
    subst hu
    rfl)
  rwa [← List.map_take, ← List.map_drop] at this

/-- out[:k] ++ [i] ++ out[k:], as it is built. -/
theorem order_built {w : World} {O : List Nat} {p : Option Addr} {n c k i : Nat} (hO : SliceIs w 3 1 (O.map encN) (.slice p n c)) (hk : k ≤ O.length) (hl : O.length ≤ 1000) :
    ∃ g1 c1 w1 g2 off2 c2 w2 g3 c3 w3,
      (Builtin.append_ #[49, 49] 49 #[.slice none 0 0, sliced p 0 k c 1]).run Try.prog w = .ok (.slice g1 k c1) w1 ∧
      (Builtin.append_ #[49, 49] 49 #[.slice g1 k c1, .slice (some ⟨w1.heap.size, 0, none⟩) 1 1]).run Try.prog (w1.alloc (.cells #[.int .i64 i] 3)) = .ok (.slice (some ⟨g2, off2, none⟩) (k + 1) c2) w2 ∧
      (Builtin.append_ #[49, 49] 49 #[.slice (some ⟨g2, off2, none⟩) (k + 1) c2, sliced p k O.length c 1]).run Try.prog w2 = .ok (.slice g3 (O.length + 1) c3) w3 ∧
      SliceIs w3 3 1 ((O.take k ++ i :: O.drop k).map encN) (.slice g3 (O.length + 1) c3) ∧ Only [] w w3 ∧ (∀ x ∈ blockOf (.slice g3 (O.length + 1) c3), w.heap.size ≤ x) := by
  have hl0 : (O.map encN).length = O.length := by simp
  obtain ⟨g1, c1, w1, ha1, hs1, o1, hb1⟩ := cut_ints (l := 0) (r := k) SliceIs.nil hO (by omega) hk (by simp; omega)
  simp only [List.length_nil, Nat.zero_add, Nat.sub_zero, List.nil_append, List.drop_zero] at ha1 hs1 hb1
  have o1' : Only [] w w1 := o1.mono (by simp [blockOf])
  have hb1' : ∀ x ∈ blockOf (.slice g1 k c1), w.heap.size ≤ x := fun x hx => by
    rcases hb1 x hx with h | h
    · simp [blockOf] at h
    · exact h
  have hlk : ((O.take k).map encN).length = k := by simp; omega
  obtain ⟨g2, off2, c2, w2, ha2, hs2, o2, hg2⟩ := int_append hs1 (by rw [hlk]; omega) i
  rw [hlk] at ha2 hs2
  have o2' : Only [] w w2 := o1'.trans' o2 (fun x hx hlt => by have := hb1' x hx; omega)
  have hg2' : w.heap.size ≤ g2 := by
    rcases hg2 with h | h
    · exact hb1' _ h
    · exact Nat.le_trans o1'.size h
  have hl2 : ((O.take k).map encN ++ [encN i]).length = k + 1 := by simp; omega
  obtain ⟨g3, c3, w3, ha3, hs3, o3, hb3⟩ := cut_ints (l := k) (r := O.length) hs2 (hO.only o2' (by simp)) hk (Nat.le_refl _) (by rw [hl2]; omega)
  rw [hl2, show k + 1 + (O.length - k) = O.length + 1 by omega] at ha3 hs3 hb3
  refine ⟨g1, c1, w1, g2, off2, c2, w2, g3, c3, w3, ha1, ha2, ha3, ?_, o2'.trans' o3 (fun x hx hlt => ?_), fun x hx => ?_⟩
  · rw [List.take_length] at hs3
    simpa using hs3
  · simp only [blockOf, List.mem_singleton] at hx
    omega
  · rcases hb3 x hx with h | h
    · simp only [blockOf, List.mem_singleton] at h
      omega
    · exact Nat.le_trans o2'.size h

end Go.Proofs.Ytbboklmmnnedjaa
