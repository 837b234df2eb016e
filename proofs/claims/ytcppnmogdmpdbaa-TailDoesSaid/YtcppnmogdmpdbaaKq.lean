/- TailOnce: what its rounds keep in memory: the buffer, and two rows of numbers. -/
import Derived.Test.YtcppnmogdmpdbaaKp
import Derived.ChangeSame
set_option linter.unusedVariables false
set_option linter.unusedSimpArgs false
namespace Go.Proofs.Ytcppnmogdmpdbaa
open Go.RowKit Go.Mk Go.Hp
attribute [-go_sem] Builtin.append_

/-- What the law is told of a slice of deeds. -/
structure Deeds13 (w : World) (a : Option Addr) (len : Nat) : Prop where
  top : len ≤ maxLen
  cell : 0 < len → ∃ b off, a = some ⟨b, off, none⟩ ∧ b < w.heap.size ∧ ∀ i, i < len → ∃ x y z u : Int, (0 ≤ x ∧ x ≤ 255) ∧ (0 ≤ y ∧ y ≤ 255) ∧ (0 ≤ z ∧ z ≤ 255) ∧ (0 ≤ u ∧ u ≤ 255) ∧
    w.cell? ⟨b, off + i * 4, none⟩ = some (.int .u8 x) ∧ w.cell? ⟨b, off + i * 4 + 1, none⟩ = some (.int .u8 y) ∧ w.cell? ⟨b, off + i * 4 + 2, none⟩ = some (.int .u8 z) ∧ w.cell? ⟨b, off + i * 4 + 3, none⟩ = some (.int .u8 u)

/-- The buffer, and two rows of numbers beside it. -/
structure Two (w wr : World) (tp : Nat) (most wait now came : Int) (I O : List Int) (A : List Ab) (iv ov : Value) : Prop where
  obj : TObj w (blockOf iv ++ blockOf ov) wr tp most wait 1 now came (fun _ => none) A
  isl : SliceIs wr 3 1 (I.map encI) iv
  osl : SliceIs wr 3 1 (O.map encI) ov
  ap : ∀ x ∈ blockOf iv, x ∉ blockOf ov
  ib : ∀ x ∈ blockOf iv, w.heap.size ≤ x
  ob : ∀ x ∈ blockOf ov, w.heap.size ≤ x

section
variable {w wr w' : World} {tp : Nat} {most wait now came now' came' : Int} {I O : List Int} {A A' : List Ab} {iv ov : Value}
theorem Two.only (h : Two w wr tp most wait now came I O A iv ov) (ho : Only [] wr w') : Two w w' tp most wait now came I O A iv ov :=
  ⟨h.obj.only ho (by simp) (by simp), h.isl.only ho (by simp), h.osl.only ho (by simp), h.ap, h.ib, h.ob⟩
theorem Two.call (h : Two w wr tp most wait now came I O A iv ov) (ho : TObj w (blockOf iv ++ blockOf ov) w' tp most wait 1 now' came' (fun _ => none) A') (hk : ∀ x ∈ blockOf iv ++ blockOf ov, w'.heap[x]? = wr.heap[x]?) : Two w w' tp most wait now' came' I O A' iv ov :=
  ⟨ho, keep_row h.isl (fun x hx => hk x (List.mem_append_left _ hx)), keep_row h.osl (fun x hx => hk x (List.mem_append_right _ hx)), h.ap, h.ib, h.ob⟩

theorem Two.addIn (h : Two w wr tp most wait now came I O A iv ov) (hl : I.length ≤ 900) (k : Int) :
    ∃ g off cap' w4, (Builtin.append_ #[22, 22] 22 #[iv, .slice (some ⟨wr.heap.size, 0, none⟩) 1 1]).run Try.prog (wr.alloc (.cells #[.int .i64 k] 3)) = .ok (.slice (some ⟨g, off, none⟩) (I.length + 1) cap') w4 ∧
      Two w w4 tp most wait now came (I ++ [k]) O A (.slice (some ⟨g, off, none⟩) (I.length + 1) cap') ov := by
  obtain ⟨g, off, cap', w4, hap, hsl, ho, hg⟩ := int_append1 h.isl hl k
  have hbl : blockOf (.slice (some ⟨g, off, none⟩) (I.length + 1) cap') = [g] := rfl
  have hgw : w.heap.size ≤ g := hg.elim (h.ib g) (fun h2 => Nat.le_trans h.obj.out.size h2)
  have hgo : g ∉ blockOf ov := fun hm => hg.elim (fun h2 => h.ap g h2 hm) (fun h2 => by have := h.osl.lt g hm; omega)
  refine ⟨g, off, cap', w4, hap, ⟨h.obj.swap ho (fun x hx => List.mem_append_left _ hx) h.ib (fun x hx => ?_) (fun x hx => ?_), hsl, h.osl.only ho (fun x hx hm => h.ap x hm hx), fun x hx => ?_, fun x hx => ?_, h.ob⟩⟩
  · rcases List.mem_append.1 hx with hx | hx
    · rw [hbl, List.mem_singleton] at hx
      rw [hx]
      exact hg.imp (fun h => List.mem_append_left _ h) id
    · exact .inl (List.mem_append_right _ hx)
  · rcases List.mem_append.1 hx with hx | hx
    · exact hsl.lt x hx
    · exact ho.lt (h.osl.lt x hx)
  · rw [hbl, List.mem_singleton] at hx
    rw [hx]; exact hgo
  · rw [hbl, List.mem_singleton] at hx
    rw [hx]; exact hgw

theorem Two.addOut (h : Two w wr tp most wait now came I O A iv ov) {M : List Int} {q : Option Addr} {c : Nat} (hm : SliceIs wr 3 1 (M.map encI) (.slice q M.length c)) (hl : O.length + M.length ≤ 1000) :
    ∃ g cap' w4, (Builtin.append_ #[22, 22] 22 #[ov, .slice q M.length c]).run Try.prog wr = .ok (.slice g (O.length + M.length) cap') w4 ∧
      Two w w4 tp most wait now came I (O ++ M) A iv (.slice g (O.length + M.length) cap') := by
  obtain ⟨g, cap', w4, hap, hsl, ho, hg⟩ := ints_append h.osl hm hl
  have hgw : ∀ x ∈ blockOf (.slice g (O.length + M.length) cap'), w.heap.size ≤ x := fun x hx => (hg x hx).elim (h.ob x) (fun h2 => Nat.le_trans h.obj.out.size h2)
  refine ⟨g, cap', w4, hap, ⟨h.obj.swap ho (fun x hx => List.mem_append_right _ hx) h.ob (fun x hx => ?_) (fun x hx => ?_), h.isl.only ho h.ap, hsl, fun x hx hm => ?_, h.ib, hgw⟩⟩
  · rcases List.mem_append.1 hx with hx | hx
    · exact .inl (List.mem_append_left _ hx)
    · exact (hg x hx).imp (fun h => List.mem_append_right _ h) id
  · rcases List.mem_append.1 hx with hx | hx
    · exact ho.lt (h.isl.lt x hx)
    · exact hsl.lt x hx
  · rcases hg x hm with h2 | h2
    · exact h.ap x hx h2
    · have := h.isl.lt x hx; omega
end

/-- Which numbers were seen, in a row of noughts and ones. -/
structure SeenZ (w : World) (c n : Nat) (L : List Int) : Prop where
  cell : ∀ k : Nat, k < n → w.cell? ⟨c, k, none⟩ = some (.int .i64 (if (k : Int) ∈ L then 1 else 0))
  fz : ∀ k : Nat, w.frozen? ⟨c, k, none⟩ = false

theorem SeenZ.of {w : World} {c n cap : Nat} (h : RowMem w 3 1 (List.replicate n [Value.int .i64 0]) c 0 cap) : SeenZ w c n [] :=
  ⟨fun k hk => by
    have h1 := h.cell (i := k) (f := 0) (x := [Value.int .i64 0]) (by rw [List.getElem?_replicate, if_pos hk]) rfl
    simpa using h1, fun k => h.frozen k⟩

theorem SeenZ.only {w w' : World} {c n : Nat} {L : List Int} (h : SeenZ w c n L) (hc : c < w.heap.size) (ho : Only [] w w') : SeenZ w' c n L :=
  ⟨fun k hk => ho.cell (h.cell k hk) (by simp), fun k => (World.frozen?_of_block (a := ⟨c, k, none⟩) (ho.block c hc (by simp))).trans (h.fz k)⟩

theorem SeenZ.put {w : World} {c n k : Nat} {L : List Int} (h : SeenZ w c n L) (hk : k < n) : SeenZ (w.setCell ⟨c, k, none⟩ (.int .i64 1)) c n (L ++ [(k : Int)]) := by
  refine ⟨fun j hj => ?_, fun j => by rw [World.frozen?_setCell]; exact h.fz j⟩
  by_cases hjk : j = k
  · subst hjk
    rw [World.cell?_setCell_same _ _ _ (h.cell j hj), if_pos (by simp)]
  · rw [World.cell?_setCell_other _ _ _ _ (by simp only [ne_eq, Addr.mk.injEq, true_and, and_true]; exact fun h => hjk h.symm), h.cell j hj]
    have hne : ¬ ((j : Int) = (k : Int)) := by omega
    by_cases hL : (j : Int) ∈ L
    · rw [if_pos hL, if_pos (List.mem_append_left _ hL)]
    · rw [if_neg hL, if_neg (by rw [List.mem_append, List.mem_singleton]; rintro (h1 | h1); exact hL h1; exact hne h1)]

/-- A number of a row, in its cell. -/
theorem row_int {w : World} {L : List Int} {p : Option Addr} {c j : Nat} {x : Int} (h : SliceIs w 3 1 (L.map encI) (.slice p L.length c)) (hx : L[j]? = some x) :
    ∃ g off, p = some ⟨g, off, none⟩ ∧ g < w.heap.size ∧ w.cell? ⟨g, off + j, none⟩ = some (.int .i64 x) := by
  generalize hX : L.map encI = Y at h
  generalize hV : Value.slice p L.length c = V at h
  cases h with
  | nil =>
    obtain ⟨_, h6, _⟩ := Value.slice.inj hV
    have := (List.getElem?_eq_some_iff.1 hx).1
    omega
  | @row _ g off cap hr =>
    obtain ⟨h6, _, _⟩ := Value.slice.inj hV
    subst hX
    have h7 := hr.cell (i := j) (f := 0) (x := encI x) (by rw [List.getElem?_map, hx]; rfl) rfl
    rw [Nat.mul_one, Nat.add_zero] at h7
    exact ⟨g, off, h6, hr.lt, h7⟩

end Go.Proofs.Ytcppnmogdmpdbaa
