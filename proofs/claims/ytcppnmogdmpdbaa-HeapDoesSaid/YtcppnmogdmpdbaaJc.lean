/- HeapDoes: one deed, walked: the heap and the document's heap do alike. -/
import Derived.Test.YtcppnmogdmpdbaaJb
import Derived.Test.YtcppnmogdmpdbaaIc
import Derived.Test.YtcppnmogdmpdbaaId
namespace Go.Proofs.Ytcppnmogdmpdbaa
open Go.RowKit Go.Mk Go.Hp Go.Proofs.Ytcppnmogdmpdbaa.PHeapDoes Go.Proofs.YtcppnmogdmpdbaaW.PrintWords
set_option linter.unusedVariables false
attribute [-go_sem] Builtin.append_

/-- The heap at hp and the reference's row v both hold the timers S; what they own was made since w0, and is apart. -/
structure Both (w0 w : World) (hp : Nat) (F : List Nat) (most : Int) (v : Value) (S : List Tm) : Prop where
  obj : HeapObj w hp F most S
  ref : RefIs w0 w v S
  apart : ∀ k, v.ownBlock = some k → k ∉ F
  since : ∀ k ∈ F, w0.heap.size ≤ k
def owned (F : List Nat) (v : Value) : List Nat := F ++ v.ownBlock.toList
theorem owned_F {F : List Nat} {v : Value} {k : Nat} (h : k ∈ F) : k ∈ owned F v := List.mem_append_left _ h
theorem owned_v {F : List Nat} {v : Value} {k : Nat} (h : v.ownBlock = some k) : k ∈ owned F v := List.mem_append_right _ (by rw [h]; simp)
theorem owned_of {F : List Nat} {v : Value} {k : Nat} (h : k ∈ owned F v) : k ∈ F ∨ v.ownBlock = some k := by
  rcases List.mem_append.1 h with h | h
  · exact .inl h
  · exact .inr (by simpa using h)
theorem Both.only {w0 w w' : World} {hp : Nat} {F X : List Nat} {most : Int} {v : Value} {S : List Tm} (h : Both w0 w hp F most v S) (ho : Only X w w') (hX : ∀ k ∈ X, w0.heap.size ≤ k ∧ k ∉ owned F v) : Both w0 w' hp F most v S :=
  ⟨h.obj.only ho (fun b hb hx => (hX b hx).2 (owned_F hb)), h.ref.only ho (fun k hk hx => (hX k hx).2 (owned_v hk)) (fun k hk => (hX k hk).1), h.apart, h.since⟩
theorem Both.lt {w0 w : World} {hp : Nat} {F : List Nat} {most : Int} {v : Value} {S : List Tm} (h : Both w0 w hp F most v S) : ∀ k ∈ owned F v, k < w.heap.size := fun k hk => by
  rcases owned_of hk with h1 | h1
  · exact h.obj.lts k h1
  · exact h.ref.lt k h1
theorem Both.base {w0 w : World} {hp : Nat} {F : List Nat} {most : Int} {v : Value} {S : List Tm} (h : Both w0 w hp F most v S) : ∀ k ∈ owned F v, w0.heap.size ≤ k := fun k hk => by
  rcases owned_of hk with h1 | h1
  · exact h.since k h1
  · exact h.ref.base k h1
theorem Both.len {w0 w : World} {hp : Nat} {F : List Nat} {most : Int} {v : Value} {S : List Tm} (h : Both w0 w hp F most v S) : S.length ≤ 5000 := by
  have := h.obj.cap; have := h.obj.top; omega

/-- What a deed leaves. -/
def After (w0 w w' : World) (hp : Nat) (F : List Nat) (most : Int) (v v' : Value) : Prop :=
  ∃ F' S', Both w0 w' hp F' most v' S' ∧ Only (owned F v) w w' ∧ (∀ k ∈ owned F' v', k ∈ owned F v ∨ w.heap.size ≤ k)

theorem heap_Push_any {w : World} {hp : Nat} {F : List Nat} {most : Int} {S : List Tm} (h : HeapObj w hp F most S) (t : Tm) :
    Calls Try.prog 17 #[.pointer (some ⟨hp, 0, none⟩), .agg #[.int .i64 t.1, .int .i64 t.2]] w fun e w' => e = .returned (.int .u16 (pushTold t S most)) ∧
      ∃ F', HeapObj w' hp F' most (pushS t S most) ∧ Only F w w' ∧ (∀ b ∈ F', b ∈ F ∨ w.heap.size ≤ b) := by
  by_cases ht : pushTold t S most = 0
  · refine (heap_Push h t ht).mono ?_
    rintro e w' ⟨rfl, F', h', o', hF⟩
    exact ⟨by rw [ht], F', by unfold pushS; rw [if_pos ht]; exact h', o', hF⟩
  · refine (heap_Push_not h t ht).mono ?_
    rintro e w' ⟨rfl, o'⟩
    exact ⟨rfl, F, by unfold pushS; rw [if_neg ht]; exact h.only o' (by simp), o'.mono (by simp), fun b hb => .inl hb⟩
theorem pushTold_small (t : Tm) (S : List Tm) (most : Int) : 0 ≤ pushTold t S most ∧ pushTold t S most ≤ 70 := by
  unfold pushTold; split
  · omega
  · split <;> omega

/-- The three boxes that a deed begins with. -/
theorem does_start (w : World) (a b c : Obj) :
    Only [] w (((w.alloc a).alloc b).alloc c) ∧ (((w.alloc a).alloc b).alloc c).heap[w.heap.size + 1]? = some b ∧ (((w.alloc a).alloc b).alloc c).heap[w.heap.size + 2]? = some c ∧ (((w.alloc a).alloc b).alloc c).heap.size = w.heap.size + 3 := by
  have e1 : (w.alloc a).heap.size = w.heap.size + 1 := by simp
  have e2 : ((w.alloc a).alloc b).heap.size = w.heap.size + 2 := by simp
  have e3 : (((w.alloc a).alloc b).alloc c).heap.size = w.heap.size + 3 := by simp
  have h1 := heap_alloc_new (w.alloc a) b
  rw [e1] at h1
  have h2 := heap_alloc_new ((w.alloc a).alloc b) c
  rw [e2] at h2
  exact ⟨((Only.refl _ _).alloc _ |>.alloc _).alloc _, by rw [Below.heap_alloc _ _ _ (by omega), h1], h2, e3⟩

/-- The deed's end: the reference has gone first, then the heap. -/
theorem After.of {w0 w wA w1 w2 w3 : World} {hp : Nat} {F F' : List Nat} {most : Int} {v v' : Value} {S S' : List Tm} (h : Both w0 w hp F most v S) (oA : Only [] w wA)
    (r1 : RefIs w0 w1 v' S') (o1 : Only v.ownBlock.toList wA w1) (hv : ∀ k, v'.ownBlock = some k → v.ownBlock = some k ∨ wA.heap.size ≤ k) (o2 : Only [] w1 w2)
    (h3 : HeapObj w3 hp F' most S') (o3 : Only F w2 w3) (hF : ∀ b ∈ F', b ∈ F ∨ w2.heap.size ≤ b) (X : List Nat) {w4 : World} (o4 : Only X w3 w4) (hX : ∀ k ∈ X, w.heap.size ≤ k ∧ k < wA.heap.size) :
    After w0 w w4 hp F most v v' := by
  have hlv := h.ref.lt
  have hlF := h.obj.lts
  have hbw := h.ref.1.size
  have hv1 := r1.lt
  have s1 := oA.size
  have s2 := o1.size
  have s3 := o2.size
  have hv'F : ∀ k, v'.ownBlock = some k → k ∉ F := fun k hk hm => by
    rcases hv k hk with h1 | h1
    · exact h.apart k h1 hm
    · have := hlF k hm; omega
  have hv'F' : ∀ k, v'.ownBlock = some k → k ∉ F' := fun k hk hm => by
    rcases hF k hm with h1 | h1
    · exact hv'F k hk h1
    · have := hv1 k hk; omega
  have hXF' : ∀ k ∈ X, k ∉ F' := fun k hk hm => by
    have := hX k hk
    rcases hF k hm with h1 | h1
    · have := hlF k h1; omega
    · omega
  have hXv : ∀ k, v'.ownBlock = some k → k ∉ X := fun k hk hm => by
    have := hX k hm
    rcases hv k hk with h1 | h1
    · have := hlv k h1; omega
    · omega
  have r3 : RefIs w0 w4 v' S' := by
    refine ((r1.only o2 (by simp) (by simp)).only o3 hv'F h.since).only o4 hXv (fun k hk => ?_)
    have := hX k hk; omega
  refine ⟨F', S', ⟨h3.only o4 (fun b hb hx => hXF' b hx hb), r3, hv'F', fun k hk => ?_⟩, ?_, fun k hk => ?_⟩
  · rcases hF k hk with h1 | h1
    · exact h.since k h1
    · omega
  · refine (((oA.mono (by simp)).trans' (S := owned F v) o1 (fun k hk _ => owned_v (by simpa using hk))).trans' o2 (by simp)).trans' o3 (fun k hk _ => owned_F hk) |>.trans' o4 (fun k hk hlt => ?_)
    have := hX k hk; omega
  · rcases owned_of hk with h1 | h1
    · rcases hF k h1 with h2 | h2
      · exact .inl (owned_F h2)
      · exact .inr (by omega)
    · rcases hv k h1 with h2 | h2
      · exact .inl (owned_v h2)
      · exact .inr (by omega)

set_option maxRecDepth 100000 in
set_option maxHeartbeats 600000 in
theorem does_push {w0 w : World} {hp : Nat} {F : List Nat} {most : Int} {v : Value} {S : List Tm} (h : Both w0 w hp F most v S) (x y z : Int) (hx : 0 ≤ x ∧ x ≤ 255) (hy : 0 ≤ y ∧ y ≤ 255) (hz : 0 ≤ z ∧ z ≤ 255)
    (hx6 : x % 6 = 0 ∨ x % 6 = 1 ∨ x % 6 = 2) :
    Calls Try.prog 25 #[.pointer (some ⟨hp, 0, none⟩), .agg #[v, .int .i64 most], .agg #[.int .u8 x, .int .u8 y, .int .u8 z]] w fun e w' => ∃ v', e = .returned (.tuple #[.agg #[v', .int .i64 most], .bool true]) ∧ After w0 w w' hp F most v v' := by
  have HB := Lib.hid h
  have t6 : x.tmod 6 = x % 6 := Int.tmod_eq_emod_of_nonneg hx.1
  have t16 : z.tmod 16 = z % 16 := Int.tmod_eq_emod_of_nonneg hz.1
  have t9 : y.tmod 9 = y % 9 := Int.tmod_eq_emod_of_nonneg hy.1
  obtain ⟨no, hno⟩ : ∃ no, z % 16 = no := ⟨_, rfl⟩
  obtain ⟨at9, hat⟩ : ∃ no, y % 9 = no := ⟨_, rfl⟩
  rw [hno] at t16
  rw [hat] at t9
  have hwr : IntKind.i64.wrap at9 = at9 := by simp [IntKind.wrap, IntKind.bits, IntKind.signed]; omega
  have hn0 : 0 ≤ no := by omega
  have hn1 : no < 16 := by omega
  have ha0 : 0 ≤ at9 := by omega
  have ha1 : at9 < 9 := by omega
  obtain ⟨hx0, hx1⟩ := hx
  obtain ⟨hy0, hy1⟩ := hy
  obtain ⟨hz0, hz1⟩ := hz
  clear h hno hat
  rcases hx6 with hx6 | hx6 | hx6
  all_goals
    rw [hx6] at t6
    clear hx6
    go_enter Try.func25, Try.ntmps25
    go_wp2_with fail
    obtain ⟨oA, cd, cr, szA⟩ := does_start w (.cells #[v, .int .i64 most] 44) (.cells #[.int .u8 x, .int .u8 y, .int .u8 z] 51) (.cells #[.slice none 0 0, .int .i64 0] 44)
    have OA := Lib.hid oA
    have hBA := HB.out.only oA (by simp)
    have Hcd := Lib.hid cd
    have Hcr := Lib.hid cr
    have HszA := Lib.hid szA
    have Hlt := Lib.hid HB.out.lt
    clear oA cd cr szA
    generalize ((w.alloc (.cells #[v, .int .i64 most] 44)).alloc (.cells #[.int .u8 x, .int .u8 y, .int .u8 z] 51)).alloc (.cells #[.slice none 0 0, .int .i64 0] 44) = wA at *
    refine (ref_Push hBA.ref most (at9, no) hBA.len).mono ?_
    rintro e w1 ⟨v0, rfl, r1, o1, hv0⟩
    obtain ⟨A0, c0, rfl⟩ := Kd.R_slice r1.2
    have hvb : ∀ k, k = w.heap.size + 1 ∨ k = w.heap.size + 2 → k ∉ v.ownBlock.toList := fun k hk hm => by
      have := Hlt.out k (owned_v (by simpa using hm)); omega
    have cd1 := o1.blk Hcd.out (hvb _ (.inl rfl))
    have cr1 := o1.blk Hcr.out (hvb _ (.inr rfl))
    have k1 : w1.cell? ⟨w.heap.size + 1, 1, none⟩ = some (.int .u8 y) := by rw [cell_of_blk cd1]; rfl
    have R1 := Lib.hid (⟨r1, o1, hv0⟩ : RefIs w0 w1 (.slice A0 _ c0) _ ∧ Only v.ownBlock.toList wA w1 ∧ (∀ k, (Value.slice A0 _ c0).ownBlock = some k → v.ownBlock = some k ∨ wA.heap.size ≤ k))
    have Hobj1 := Lib.hid (hBA.obj.only o1 (fun b hb hm => HB.out.apart b (by simpa using hm) hb))
    have Hcr1 := Lib.hid cr1
    have Hs := Lib.hid HB.out
    have hsz1 : w.heap.size + 2 < w1.heap.size := lt_of_blk cr1
    obtain ⟨pt0, pt1⟩ := pushTold_small (at9, no) S most
    have hwp : IntKind.i64.wrap (pushTold (at9, no) S most) = pushTold (at9, no) S most := IntWalk.i64_in _ (by omega)
    have hpt := Lib.hid (rfl : pushTold (at9, no) S most = pushTold (at9, no) S most)
    generalize hq : pushTold (at9, no) S most = pt at *
    have Hq := Lib.hid hq
    clear hq hpt r1 o1 hv0 cd1 cr1 hBA
    go_wp2_with fail
    have o2 : Only [] w1 (w1.alloc (.cells #[.slice A0 (refL (pushS (at9, no) S most)).length c0, .int .i64 most] 44)) := (Only.refl _ _).alloc _
    have hx9 := heap_alloc_new w1 (.cells #[.slice A0 (refL (pushS (at9, no) S most)).length c0, .int .i64 most] 44)
    have hs2 : w1.heap.size < (w1.alloc (.cells #[.slice A0 (refL (pushS (at9, no) S most)).length c0, .int .i64 most] 44)).heap.size := by simp
    have k2 := o2.cell k1 (by simp)
    have cr2 := o2.blk Hcr1.out (by simp)
    have Hobj2 := Lib.hid (Hobj1.out.only o2 (by simp))
    have O2 := Lib.hid o2
    have Hsz1 := Lib.hid hsz1
    generalize w1.alloc (.cells #[.slice A0 (refL (pushS (at9, no) S most)).length c0, .int .i64 most] 44) = w2 at *
    have HF2 : Hid (∀ b ∈ F, b < w.heap.size) := fun b hb => Hlt.out b (owned_F hb)
    generalize hb1 : w1.heap.size = b1 at *
    have Hb1 := Lib.hid hb1
    generalize hb0 : w.heap.size + 1 = d1 at *
    have hb2 : w.heap.size + 2 = d1 + 1 := by omega
    rw [hb2] at cr2 hsz1
    have Hth : Hid (∀ w3, Only F w2.drew w3 → w3.cell? ⟨b1, 0, none⟩ = some (.slice A0 (refL (pushS (at9, no) S most)).length c0) ∧ w3.cell? ⟨b1, 1, none⟩ = some (.int .i64 most) ∧ w3.cell? ⟨d1, 1, none⟩ = some (.int .u8 y) ∧
        w3.heap[d1 + 1]? = some (.cells #[.slice none 0 0, .int .i64 0] 44)) := fun w3 o3 => by
      have n1 : b1 ∉ F := fun hm => by have := HF2.out _ hm; omega
      have n2 : d1 ∉ F := fun hm => by have := HF2.out _ hm; omega
      have n3 : d1 + 1 ∉ F := fun hm => by have := HF2.out _ hm; omega
      have h9 := (((Only.refl F _).drew).trans o3).blk hx9 n1
      exact ⟨by rw [cell_of_blk h9]; rfl, by rw [cell_of_blk h9]; rfl, (((Only.refl F _).drew).trans o3).cell k2 n2, (((Only.refl F _).drew).trans o3).blk cr2 n3⟩
    have q0 : w2.cell? ⟨b1, 0, none⟩ = some (.slice A0 (refL (pushS (at9, no) S most)).length c0) := by rw [cell_of_blk hx9]; rfl
    have q1 : w2.cell? ⟨b1, 1, none⟩ = some (.int .i64 most) := by rw [cell_of_blk hx9]; rfl
    have q2 : ∀ q, w2.frozen? ⟨d1 + 1, q, none⟩ = false := fun q => frozen_of_blk cr2
    have hcP : Hid (Calls Try.prog 17 #[.pointer (some ⟨hp, 0, none⟩), .agg #[.int .i64 at9, .int .i64 no]] w2.drew fun e w' => e = .returned (.int .u16 pt) ∧
        ∃ F', HeapObj w' hp F' most (pushS (at9, no) S most) ∧ Only F w2.drew w' ∧ (∀ b ∈ F', b ∈ F ∨ w2.heap.size ≤ b)) := by
      have := heap_Push_any (Hobj2.out.only (Only.drew (Only.refl [] w2)) (by simp)) (at9, no)
      rw [Hq.out] at this
      exact this
    clear hx9 cr2 o2
    go_region_with (go_at_call 17; go_must (refine hcP.out.mono ?_; rintro e w3 ⟨rfl, F3, h3, o3, hF3⟩; (obtain ⟨g0, g1, g2, g3⟩ := Hth.out w3 o3); (have g4 : ∀ q, w3.frozen? ⟨d1 + 1, q, none⟩ = false := fun q => frozen_of_blk g3); (have g5 : w3.cell? ⟨d1 + 1, 0, none⟩ = some (.slice none 0 0) := by rw [cell_of_blk g3]; rfl); (have g6 : w3.cell? ⟨d1 + 1, 1, none⟩ = some (.int .i64 0) := by rw [cell_of_blk g3]; rfl); have H3 := Lib.hid (And.intro h3 (And.intro o3 hF3)); clear h3 o3 hF3 g3))
    all_goals go_wp2_with fail
    all_goals
      refine bodyPost_ret (v := .tuple #[.agg #[.slice A0 (refL (pushS (at9, no) S most)).length c0, .int .i64 most], .bool true]) (by simp [results, Try.results25, go_sem, Act.put, g5, g6]) rfl ⟨_, rfl, ?_⟩
      obtain ⟨h3, o3, hF3⟩ := H3.out
      exact After.of Hs.out OA.out R1.out.1 R1.out.2.1 R1.out.2.2 O2.out.drew h3 o3 hF3 [d1 + 1] (((Only.refl _ _).setCell (.inl (by simp)) _).setCell (.inl (by simp)) _) (fun k hk => by
        have e1 := HszA.out
        simp only [List.mem_singleton] at hk
        omega)

end Go.Proofs.Ytcppnmogdmpdbaa
