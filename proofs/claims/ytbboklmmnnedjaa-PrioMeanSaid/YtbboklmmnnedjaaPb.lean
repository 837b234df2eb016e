/- Package prio, walked: an offer above another one; the methods of its row: Len, Less. -/
import Derived.Test.YtbboklmmnnedjaaPp
import Derived.StillTailTactics
set_option linter.unusedVariables false
set_option linter.unusedSimpArgs false
namespace Go.Proofs.Ytbboklmmnnedjaa
open Go.RowKit Go.Mk Go.Pr
attribute [-go_sem] Builtin.append_

def encO (o : Of) : List Value := [.int .u64 o.w, .int .u64 o.d, .int .i64 o.p]
def ofV (o : Of) : Value := .agg #[.int .u64 o.w, .int .u64 o.d, .int .i64 o.p]
structure OfOk (o : Of) : Prop where
  w : o.w < big
  d : o.d < big
  p : o.p < 4611686018427387904

set_option maxRecDepth 100000 in
set_option maxHeartbeats 2000000 in
theorem beats_walk (a b : Of) (w : World) (ha : OfOk a) (hb : OfOk b) :
    Calls Try.prog 86 #[ofV a, ofV b] w fun e w' => e = .returned (.bool (beats a b)) ∧ Only [] w w' := by
  obtain ⟨aw, ad, ap⟩ := a
  obtain ⟨bw, bd, bp⟩ := b
  obtain ⟨h1, h2, h3⟩ := ha
  obtain ⟨h4, h5, h6⟩ := hb
  simp only at h1 h2 h3 h4 h5 h6
  have oa : Only [] w ((w.alloc (.cells #[.int .u64 aw, .int .u64 ad, .int .i64 ap] 56)).alloc (.cells #[.int .u64 bw, .int .u64 bd, .int .i64 bp] 56)) := ((Only.refl _ _).alloc _).alloc _
  have hb1 : ((w.alloc (.cells #[.int .u64 aw, .int .u64 ad, .int .i64 ap] 56)).alloc (.cells #[.int .u64 bw, .int .u64 bd, .int .i64 bp] 56)).heap[w.heap.size]? = _ := ((Only.refl [] _).alloc _).blk (heap_alloc_new _ _) (by simp)
  have hb2 := heap_alloc_new (w.alloc (.cells #[.int .u64 aw, .int .u64 ad, .int .i64 ap] 56)) (.cells #[.int .u64 bw, .int .u64 bd, .int .i64 bp] 56)
  rw [World.size_alloc] at hb2
  have C1 := Lib.hid (fun W => above_walk aw ad bw bd W h1 h2 h4 h5)
  have C2 := Lib.hid (fun W => above_walk bw bd aw ad W h4 h5 h1 h2)
  unfold ofV beats
  simp only
  generalize aboveN aw ad bw bd = x at *
  generalize aboveN bw bd aw ad = y at *
  have OA := Lib.hid oa
  have HB1 := Lib.hid hb1
  have HB2 := Lib.hid hb2
  clear oa hb1 hb2 h1 h2 h3 h4 h5 h6
  go_enter Try.func86, Try.ntmps86
  go_wp2_with fail
  generalize (w.alloc (.cells #[.int .u64 aw, .int .u64 ad, .int .i64 ap] 56)).alloc (.cells #[.int .u64 bw, .int .u64 bd, .int .i64 bp] 56) = w1 at *
  generalize w.heap.size = k1 at *
  generalize k1 + 1 = k2 at *
  refine (C1.out _).mono ?_
  rintro e w2 ⟨rfl, o2⟩
  have O2 := Lib.hid (OA.out.trans o2)
  have q1 := o2.blk HB1.out (by simp)
  have q2 := o2.blk HB2.out (by simp)
  cases x with
  | true =>
    clear o2 q1 q2
    go_wp2_with fail
    go_ret
    exact ⟨rfl, O2.out⟩
  | false =>
    have a0 : w2.cell? ⟨k1, 0, none⟩ = some (.int .u64 (aw : Int)) := by rw [cell_of_blk q1]; rfl
    have a1 : w2.cell? ⟨k1, 1, none⟩ = some (.int .u64 (ad : Int)) := by rw [cell_of_blk q1]; rfl
    have b0 : w2.cell? ⟨k2, 0, none⟩ = some (.int .u64 (bw : Int)) := by rw [cell_of_blk q2]; rfl
    have b1 : w2.cell? ⟨k2, 1, none⟩ = some (.int .u64 (bd : Int)) := by rw [cell_of_blk q2]; rfl
    have l1 := lt_of_blk q1
    have l2 := lt_of_blk q2
    have Q := Lib.hid (And.intro q1 q2)
    clear o2 q1 q2
    go_wp2_with fail
    refine (C2.out _).mono ?_
    rintro e w3 ⟨rfl, o3⟩
    have O3 := Lib.hid (O2.out.trans o3)
    have q1 := o3.blk Q.out.1 (by simp)
    have q2 := o3.blk Q.out.2 (by simp)
    clear a0 a1 b0 b1 l1 l2
    cases y with
    | true =>
      clear o3 q1 q2
      go_wp2_with fail
      go_ret
      exact ⟨rfl, O3.out⟩
    | false =>
      have a2 : w3.cell? ⟨k1, 2, none⟩ = some (.int .i64 (ap : Int)) := by rw [cell_of_blk q1]; rfl
      have b2 : w3.cell? ⟨k2, 2, none⟩ = some (.int .i64 (bp : Int)) := by rw [cell_of_blk q2]; rfl
      have l1 := lt_of_blk q1
      have l2 := lt_of_blk q2
      clear o3 q1 q2
      go_wp2_with fail
      go_ret
      exact ⟨by simp, O3.out⟩

theorem region_tail {P : Program} {id : Nat} {Q : Exit → Act → World → Prop} {a : Act} {w : World} {l : List Oper} (n : Nat) (hm : P.follows .mixedOrders = true) (hB : Region.lexTailB .any l.toArray n = true)
    (h : wpStill P l.toArray w.drew (fun a' => wpList P l.toArray Q (l.drop n) a' w.drew) (l.take n) a) : (Code.region id l.toArray true).wp P Q a w := wp_region_still_tail n hm hB h

set_option maxHeartbeats 1000000 in
theorem len_walk (p : Option Addr) (n cap : Nat) (w : World) : Calls Try.prog 83 #[.slice p n cap] w fun e w' => e = .returned (.int .i64 n) ∧ w' = w := by
  go_enter Try.func83, Try.ntmps83
  go_wp2
  go_ret
  exact ⟨rfl, rfl⟩

set_option maxRecDepth 100000 in
set_option maxHeartbeats 2000000 in
theorem less_cells (bs os i j len cap : Nat) (A B : Of) (hA : OfOk A) (hB : OfOk B) (w : World)
    (hbs : bs < w.heap.size) (hi : (i : Int) < len) (hj : (j : Int) < len)
    (ci0 : w.cell? ⟨bs, os + i * 3, none⟩ = some (.int .u64 A.w)) (ci1 : w.cell? ⟨bs, os + i * 3 + 1, none⟩ = some (.int .u64 A.d)) (ci2 : w.cell? ⟨bs, os + i * 3 + 2, none⟩ = some (.int .i64 A.p))
    (cj0 : w.cell? ⟨bs, os + j * 3, none⟩ = some (.int .u64 B.w)) (cj1 : w.cell? ⟨bs, os + j * 3 + 1, none⟩ = some (.int .u64 B.d)) (cj2 : w.cell? ⟨bs, os + j * 3 + 2, none⟩ = some (.int .i64 B.p)) :
    Calls Try.prog 84 #[.slice (some ⟨bs, os, none⟩) len cap, .int .i64 i, .int .i64 j] w fun e w' => e = .returned (.bool (ltT A B)) ∧ Only [] w w' := by
  have C := Lib.hid (fun W => beats_walk B A W hB hA)
  obtain ⟨Aw, Ad, Ap⟩ := A
  obtain ⟨Bw, Bd, Bp⟩ := B
  simp only at ci0 ci1 ci2 cj0 cj1 cj2
  unfold ofV at C
  unfold ltT
  generalize beats ⟨Bw, Bd, Bp⟩ ⟨Aw, Ad, Ap⟩ = g at *
  clear hA hB
  go_enter Try.func84, Try.ntmps84
  go_wp2_with fail
  refine region_tail 8 (by kernel_rfl) (by kernel_rfl) ?_
  simp only [List.take_succ_cons, List.take_zero, List.drop_succ_cons, List.drop_zero]
  repeat still_step
  refine wpStill_nil ?_
  go_wp2_with fail
  refine (C.out _).mono ?_
  rintro e w2 ⟨rfl, o2⟩
  have O2 := Lib.hid ((Only.refl [] w).drew.trans o2)
  clear o2
  go_wp2_with fail
  go_ret
  exact ⟨rfl, O2.out⟩

/-- The row of offers L, in the first cell of a block. -/
structure LeastAt (w : World) (hp : Nat) (rest : List Value) (T : TypeId) (sv : Value) (L : List Of) : Prop where
  blk : w.heap[hp]? = some (.cells (sv :: rest).toArray T (0, 0))
  sl : SliceIs w 56 3 (L.map encO) sv
  far : hp ∉ blockOf sv
  ok : ∀ o ∈ L, OfOk o
theorem LeastAt.c0 {w : World} {hp : Nat} {rest : List Value} {T : TypeId} {sv : Value} {L : List Of} (h : LeastAt w hp rest T sv L) : w.cell? ⟨hp, 0, none⟩ = some sv := by
  rw [cell_of_blk h.blk]; simp
theorem LeastAt.only {w w' : World} {hp : Nat} {rest : List Value} {T : TypeId} {sv : Value} {L : List Of} {S : List Nat} (h : LeastAt w hp rest T sv L) (ho : Only S w w') (h1 : hp ∉ S) (h2 : ∀ b ∈ blockOf sv, b ∉ S) : LeastAt w' hp rest T sv L :=
  ⟨ho.blk h.blk h1, h.sl.only ho h2, h.far, h.ok⟩

theorem least_less {w : World} {hp : Nat} {rest : List Value} {T : TypeId} {sv : Value} {L : List Of} (h : LeastAt w hp rest T sv L) {i j : Nat} {a b : Of} (ha : L[i]? = some a) (hb : L[j]? = some b) (I J : Int) (hI : I = i) (hJ : J = j) :
    Calls Try.prog 84 #[sv, .int .i64 I, .int .i64 J] w fun e w' => e = .returned (.bool (ltT a b)) ∧ Only [] w w' := by
  subst hI hJ
  have hil := (List.getElem?_eq_some_iff.1 ha).1
  have hjl := (List.getElem?_eq_some_iff.1 hb).1
  have hsl := h.sl
  generalize hX : L.map encO = X at hsl
  cases hsl with
  | nil =>
    have := congrArg List.length hX
    rw [List.length_map] at this
    simp at this
    rw [this] at hil
    simp at hil
  | @row _ g off cap hr =>
    subst hX
    have hia : (L.map encO)[i]? = some (encO a) := by rw [List.getElem?_map, ha]; rfl
    have hjb : (L.map encO)[j]? = some (encO b) := by rw [List.getElem?_map, hb]; rfl
    exact less_cells g off i j _ cap a b (h.ok a (List.mem_of_getElem? ha)) (h.ok b (List.mem_of_getElem? hb)) w hr.lt (by simpa using hil) (by simpa using hjl)
      (hr.cell (f := 0) hia rfl) (hr.cell (f := 1) hia rfl) (hr.cell (f := 2) hia rfl) (hr.cell (f := 0) hjb rfl) (hr.cell (f := 1) hjb rfl) (hr.cell (f := 2) hjb rfl)

end Go.Proofs.Ytbboklmmnnedjaa
