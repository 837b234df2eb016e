/- HeapDoes: any deed; and what the law's rounds keep. -/
import Derived.Test.YtcppnmogdmpdbaaJf
namespace Go.Proofs.Ytcppnmogdmpdbaa
open Go.RowKit Go.Mk Go.Hp Go.Proofs.Ytcppnmogdmpdbaa.PHeapDoes Go.Proofs.YtcppnmogdmpdbaaW.PrintWords
set_option linter.unusedVariables false
attribute [-go_sem] Builtin.append_

theorem does_walk {w0 w : World} {hp : Nat} {F : List Nat} {most : Int} {v : Value} {S : List Tm} (h : Both w0 w hp F most v S) (x y z : Int) (hx : 0 ≤ x ∧ x ≤ 255) (hy : 0 ≤ y ∧ y ≤ 255) (hz : 0 ≤ z ∧ z ≤ 255) :
    Calls Try.prog 25 #[.pointer (some ⟨hp, 0, none⟩), .agg #[v, .int .i64 most], .agg #[.int .u8 x, .int .u8 y, .int .u8 z]] w fun e w' => ∃ v', e = .returned (.tuple #[.agg #[v', .int .i64 most], .bool true]) ∧ After w0 w w' hp F most v v' := by
  have h6 : (x % 6 = 0 ∨ x % 6 = 1 ∨ x % 6 = 2) ∨ x % 6 = 3 ∨ x % 6 = 4 ∨ x % 6 = 5 := by omega
  rcases h6 with h6 | h6 | h6 | h6
  · exact does_push h x y z hx hy hz h6
  · exact does_pop h x y z hx hy hz h6
  · exact does_drop h x y z hx hy hz h6
  · exact does_due h x y z hx hy hz h6

/-- What the rounds keep: the heap and the reference's row hold the same; the reference stands in the box rb. -/
def LoopI (w wr : World) (hp rb : Nat) (most : Int) : Prop :=
  ∃ F v S, Both w wr hp F most v S ∧ wr.heap[rb]? = some (.cells #[v, .int .i64 most] 44) ∧ rb ∉ owned F v ∧ w.heap.size ≤ rb ∧ Only [] w wr

theorem LoopI.next {w wr w3 : World} {hp rb : Nat} {most : Int} {F : List Nat} {v v' : Value} {S : List Tm} (hB : Both w wr hp F most v S) (hr : wr.heap[rb]? = some (.cells #[v, .int .i64 most] 44)) (hn : rb ∉ owned F v) (hw : w.heap.size ≤ rb) (ho : Only [] w wr)
    (ha : After w wr w3 hp F most v v') {w4 : World} (o4 : Only [] w3 w4) : LoopI w ((w4.setCell ⟨rb, 0, none⟩ v').setCell ⟨rb, 1, none⟩ (.int .i64 most)) hp rb most := by
  obtain ⟨F', S', hB', o3, hF'⟩ := ha
  have hrl := lt_of_blk hr
  have hn' : rb ∉ owned F' v' := fun hm => by
    rcases hF' rb hm with h1 | h1
    · exact hn h1
    · omega
  have os : Only [rb] w4 ((w4.setCell ⟨rb, 0, none⟩ v').setCell ⟨rb, 1, none⟩ (.int .i64 most)) := ((Only.refl _ _).setCell (.inl (by simp)) _).setCell (.inl (by simp)) _
  have hb0 := o4.blk (o3.blk hr hn) (by simp)
  have hb1 := setCell_blk (i := 0) (v := v') hb0
  have hb2 := setCell_blk (i := 1) (v := .int .i64 most) hb1
  refine ⟨F', v', S', (hB'.only o4 (by simp)).only os (fun k hk => ?_), hb2, hn', hw, ((ho.trans' o3 (fun k hk hlt => ?_)).trans' o4 (by simp)).trans' os (fun k hk hlt => ?_)⟩
  · simp only [List.mem_singleton] at hk; subst hk; exact ⟨hw, hn'⟩
  · have := hB.base k hk; omega
  · simp only [List.mem_singleton] at hk; omega

theorem After.undrew {w0 w w' : World} {hp : Nat} {F : List Nat} {most : Int} {v v' : Value} (h : After w0 w.drew w' hp F most v v') : After w0 w w' hp F most v v' := by
  obtain ⟨F', S', h1, h2, h3⟩ := h
  exact ⟨F', S', h1, ((Only.refl _ _).drew).trans h2, h3⟩
theorem After.slice {w0 w w' : World} {hp : Nat} {F : List Nat} {most : Int} {v v' : Value} (h : After w0 w w' hp F most v v') : ∃ A n c, v' = .slice A n c := by
  obtain ⟨F', S', h1, _, _⟩ := h
  obtain ⟨A, c, e⟩ := Kd.R_slice h1.ref.2
  exact ⟨A, _, c, e⟩
theorem After.only {w0 w w' : World} {hp : Nat} {F : List Nat} {most : Int} {v v' : Value} (h : After w0 w w' hp F most v v') : Only (owned F v) w w' := by
  obtain ⟨F', S', h1, h2, _⟩ := h
  exact h2

theorem LoopI.of {w wr w' : World} {hp rb : Nat} {most : Int} {F : List Nat} {v : Value} {S : List Tm} (hB : Both w wr hp F most v S) (hr : wr.heap[rb]? = some (.cells #[v, .int .i64 most] 44)) (hn : rb ∉ owned F v) (hw : w.heap.size ≤ rb) (ho : Only [] w wr)
    (h : Only [] wr w') : LoopI w w' hp rb most := ⟨F, v, S, hB.only h (by simp), h.blk hr (by simp), hn, hw, ho.trans h⟩
theorem heap_First' {w : World} {hp : Nat} {F : List Nat} {most : Int} {S : List Tm} (h : HeapObj w hp F most S) {p q : Int} {b : Bool} (e : firstT S = (p, q, b)) :
    Calls Try.prog 21 #[.pointer (some ⟨hp, 0, none⟩)] w fun e w' => e = .returned (.tuple #[.agg #[.int .i64 p, .int .i64 q], .bool b]) ∧ Only [] w w' := by
  refine (heap_First h).mono ?_
  rintro e w' ⟨rfl, o'⟩
  exact ⟨by rw [firstV_eq, e], o'⟩

/-- A push in both: the reference first. -/
theorem After.push {w0 wr w1 w2 w3 : World} {hp : Nat} {F F' : List Nat} {most : Int} {v v' : Value} {S S' : List Tm} (h : Both w0 wr hp F most v S)
    (r1 : RefIs w0 w1 v' S') (o1 : Only v.ownBlock.toList wr w1) (hv : ∀ k, v'.ownBlock = some k → v.ownBlock = some k ∨ wr.heap.size ≤ k) (o2 : Only [] w1 w2)
    (h3 : HeapObj w3 hp F' most S') (o3 : Only F w2 w3) (hF : ∀ b ∈ F', b ∈ F ∨ w2.heap.size ≤ b) : After w0 wr w3 hp F most v v' :=
  After.of h (Only.refl _ _) r1 o1 hv o2 h3 o3 hF [] (Only.refl _ _) (by simp)

/-- The reference has pushed, what it gave stands in a new box. -/
def MidR (w wr wx : World) (v : Value) (S' : List Tm) (most told : Int) (s13 s14 : Value) : Prop :=
  ∃ b1 A0 c0, s13 = .pointer (some ⟨b1, 0, none⟩) ∧ s14 = .int .i64 told ∧ wr.heap.size ≤ b1 ∧ wx.heap[b1]? = some (.cells #[.slice A0 (refL S').length c0, .int .i64 most] 44) ∧
    RefIs w wx (.slice A0 (refL S').length c0) S' ∧ Only v.ownBlock.toList wr wx ∧ (∀ k, (Value.slice A0 (refL S').length c0).ownBlock = some k → v.ownBlock = some k ∨ wr.heap.size ≤ k)
theorem MidR.a {w wr w1 : World} {v : Value} {S' : List Tm} {most told : Int} {A0 : Option Addr} {c0 : Nat} (r1 : RefIs w w1 (.slice A0 (refL S').length c0) S') (o1 : Only v.ownBlock.toList wr.drew w1)
    (hv : ∀ k, (Value.slice A0 (refL S').length c0).ownBlock = some k → v.ownBlock = some k ∨ wr.drew.heap.size ≤ k) :
    MidR w wr (w1.alloc (.cells #[.slice A0 (refL S').length c0, .int .i64 most] 44)) v S' most told (.pointer (some ⟨w1.heap.size, 0, none⟩)) (.int .i64 told) :=
  ⟨_, A0, c0, rfl, rfl, o1.size, heap_alloc_new _ _, RefIs.only (F := []) r1 ((Only.refl _ _).alloc _) (by simp) (by simp), (((Only.refl _ _).drew).trans o1).alloc _, hv⟩
theorem MidR.b {w wr w1 : World} {v : Value} {S' : List Tm} {most told : Int} {A0 : Option Addr} {c0 : Nat} {Z : Obj} (hvs : ∀ k, v.ownBlock = some k → k < wr.heap.size) (hw : w.heap.size ≤ wr.heap.size)
    (z1 : w1.heap[wr.heap.size]? = some (.cells #[.slice none 0 0, .int .i64 0] 44)) (r1 : RefIs w w1 (.slice A0 (refL S').length c0) S') (o1 : Only v.ownBlock.toList (wr.alloc Z).drew w1)
    (hv : ∀ k, (Value.slice A0 (refL S').length c0).ownBlock = some k → v.ownBlock = some k ∨ (wr.alloc Z).drew.heap.size ≤ k) :
    MidR w wr ((w1.setCell ⟨wr.heap.size, 0, none⟩ (.slice A0 (refL S').length c0)).setCell ⟨wr.heap.size, 1, none⟩ (.int .i64 most)) v S' most told (.pointer (some ⟨wr.heap.size, 0, none⟩)) (.int .i64 told) := by
  have hsz : (wr.alloc Z).drew.heap.size = wr.heap.size + 1 := by show (wr.alloc Z).heap.size = _; simp
  have hb1 := setCell_blk (i := 0) (v := .slice A0 (refL S').length c0) z1
  have hb2 := setCell_blk (i := 1) (v := .int .i64 most) hb1
  have os : Only [wr.heap.size] w1 ((w1.setCell ⟨wr.heap.size, 0, none⟩ (.slice A0 (refL S').length c0)).setCell ⟨wr.heap.size, 1, none⟩ (.int .i64 most)) := ((Only.refl _ _).setCell (.inl (by simp)) _).setCell (.inl (by simp)) _
  refine ⟨_, A0, c0, rfl, rfl, Nat.le_refl _, hb2, r1.only os (fun k hk hm => ?_) (fun k hk => ?_), ?_, fun k hk => (hv k hk).imp id (fun h => by omega)⟩
  · simp only [List.mem_singleton] at hm
    rcases hv k hk with h1 | h1
    · have := hvs k h1; omega
    · omega
  · simp only [List.mem_singleton] at hk; omega
  · have ow : Only v.ownBlock.toList wr w1 := (((Only.refl _ _).alloc Z).drew).trans o1
    exact ow.trans' os (fun k hk hlt => by simp only [List.mem_singleton] at hk; omega)

/-- What the law is told of a slice of timers, and of a slice of deeds. -/
structure TimersIn (w : World) (a : Option Addr) (len : Nat) : Prop where
  top : len ≤ maxLen
  cell : 0 < len → ∃ b off, a = some ⟨b, off, none⟩ ∧ b < w.heap.size ∧ ∀ i, i < len → ∃ p q : Int, w.cell? ⟨b, off + i * 2, none⟩ = some (.int .i64 p) ∧ w.cell? ⟨b, off + i * 2 + 1, none⟩ = some (.int .i64 q)
structure DeedsIn (w : World) (a : Option Addr) (len : Nat) : Prop where
  top : len ≤ maxLen
  cell : 0 < len → ∃ b off, a = some ⟨b, off, none⟩ ∧ b < w.heap.size ∧ ∀ i, i < len → ∃ x y z : Int, (0 ≤ x ∧ x ≤ 255) ∧ (0 ≤ y ∧ y ≤ 255) ∧ (0 ≤ z ∧ z ≤ 255) ∧
    w.cell? ⟨b, off + i * 3, none⟩ = some (.int .u8 x) ∧ w.cell? ⟨b, off + i * 3 + 1, none⟩ = some (.int .u8 y) ∧ w.cell? ⟨b, off + i * 3 + 2, none⟩ = some (.int .u8 z)
end Go.Proofs.Ytcppnmogdmpdbaa
