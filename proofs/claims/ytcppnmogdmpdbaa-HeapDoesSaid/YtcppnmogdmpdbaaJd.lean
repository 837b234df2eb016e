/- HeapDoes: a deed that takes out, walked. -/
import Derived.Test.YtcppnmogdmpdbaaJc
namespace Go.Proofs.Ytcppnmogdmpdbaa
open Go.RowKit Go.Mk Go.Hp Go.Proofs.Ytcppnmogdmpdbaa.PHeapDoes Go.Proofs.YtcppnmogdmpdbaaW.PrintWords
set_option linter.unusedVariables false
attribute [-go_sem] Builtin.append_

theorem firstV_eq (S : List Tm) : firstV S = .tuple #[.agg #[.int .i64 (firstT S).1, .int .i64 (firstT S).2.1], .bool (firstT S).2.2] := by cases S <;> rfl
theorem heap_Pop' {w : World} {hp : Nat} {F : List Nat} {most : Int} {S : List Tm} (h : HeapObj w hp F most S) {p q : Int} {b : Bool} (e : firstT S = (p, q, b)) :
    Calls Try.prog 18 #[.pointer (some ⟨hp, 0, none⟩)] w fun e w' => e = .returned (.tuple #[.agg #[.int .i64 p, .int .i64 q], .bool b]) ∧ ∃ F', HeapObj w' hp F' most S.tail ∧ Only F w w' ∧ (∀ b ∈ F', b ∈ F ∨ w.heap.size ≤ b) := by
  refine (heap_Pop h).mono ?_
  rintro e w' ⟨rfl, h', o'⟩
  exact ⟨by rw [firstV_eq, e], F, h', o', fun b hb => .inl hb⟩

set_option maxRecDepth 100000 in
set_option maxHeartbeats 600000 in
theorem does_pop {w0 w : World} {hp : Nat} {F : List Nat} {most : Int} {v : Value} {S : List Tm} (h : Both w0 w hp F most v S) (x y z : Int) (hx : 0 ≤ x ∧ x ≤ 255) (hy : 0 ≤ y ∧ y ≤ 255) (hz : 0 ≤ z ∧ z ≤ 255)
    (hx6 : x % 6 = 3) :
    Calls Try.prog 25 #[.pointer (some ⟨hp, 0, none⟩), .agg #[v, .int .i64 most], .agg #[.int .u8 x, .int .u8 y, .int .u8 z]] w fun e w' => ∃ v', e = .returned (.tuple #[.agg #[v', .int .i64 most], .bool true]) ∧ After w0 w w' hp F most v v' := by
  have HB := Lib.hid h
  have t6 : x.tmod 6 = 3 := by rw [Int.tmod_eq_emod_of_nonneg hx.1, hx6]
  have t16 : z.tmod 16 = z % 16 := Int.tmod_eq_emod_of_nonneg hz.1
  obtain ⟨no, hno⟩ : ∃ no, z % 16 = no := ⟨_, rfl⟩
  rw [hno] at t16
  have hn0 : 0 ≤ no := by omega
  have hn1 : no < 16 := by omega
  obtain ⟨hx0, hx1⟩ := hx
  obtain ⟨hy0, hy1⟩ := hy
  obtain ⟨hz0, hz1⟩ := hz
  clear h hno hx6
  go_enter Try.func25, Try.ntmps25
  go_wp2_with fail
  obtain ⟨oA, cd, cr, szA⟩ := does_start w (.cells #[v, .int .i64 most] 44) (.cells #[.int .u8 x, .int .u8 y, .int .u8 z] 51) (.cells #[.slice none 0 0, .int .i64 0] 44)
  have OA := Lib.hid oA
  have hBA := HB.out.only oA (by simp)
  have Hcr := Lib.hid cr
  have HszA := Lib.hid szA
  have Hlt := Lib.hid HB.out.lt
  clear oA cd cr szA
  generalize ((w.alloc (.cells #[v, .int .i64 most] 44)).alloc (.cells #[.int .u8 x, .int .u8 y, .int .u8 z] 51)).alloc (.cells #[.slice none 0 0, .int .i64 0] 44) = wA at *
  obtain ⟨⟨p, q, b⟩, hpqb⟩ : ∃ r, firstT S = r := ⟨_, rfl⟩
  have Hpqb := Lib.hid hpqb
  have hrp := ref_Pop hBA.ref most hBA.len hBA.obj.nos
  rw [hpqb] at hrp
  refine hrp.mono ?_
  clear hrp hpqb
  rintro e w1 ⟨v0, rfl, r1, o1, hv0⟩
  obtain ⟨A0, c0, rfl⟩ := Kd.R_slice r1.2
  have hvb : ∀ k, k = w.heap.size + 2 → k ∉ v.ownBlock.toList := fun k hk hm => by
    have := Hlt.out k (owned_v (by simpa using hm)); omega
  have cr1 := o1.blk Hcr.out (hvb _ rfl)
  have R1 := Lib.hid (⟨r1, o1, hv0⟩ : RefIs w0 w1 (.slice A0 _ c0) _ ∧ Only v.ownBlock.toList wA w1 ∧ (∀ k, (Value.slice A0 _ c0).ownBlock = some k → v.ownBlock = some k ∨ wA.heap.size ≤ k))
  have Hobj1 := Lib.hid (hBA.obj.only o1 (fun b hb hm => HB.out.apart b (by simpa using hm) hb))
  have Hcr1 := Lib.hid cr1
  have Hs := Lib.hid HB.out
  have hsz1 : w.heap.size + 2 < w1.heap.size := lt_of_blk cr1
  clear r1 o1 hv0 cr1 hBA
  generalize (refL S.tail).length = ln at *
  go_wp2_with fail
  have o2 : Only [] w1 ((w1.alloc (.cells #[.slice A0 ln c0, .int .i64 most] 44)).alloc (.cells #[.int .i64 p, .int .i64 q] 30)) := ((Only.refl _ _).alloc _).alloc _
  have hx9 : ((w1.alloc (.cells #[.slice A0 ln c0, .int .i64 most] 44)).alloc (.cells #[.int .i64 p, .int .i64 q] 30)).heap[w1.heap.size]? = some (.cells #[.slice A0 ln c0, .int .i64 most] 44) := by
    rw [Below.heap_alloc _ _ _ (by simp), heap_alloc_new]
  have hx10 : ((w1.alloc (.cells #[.slice A0 ln c0, .int .i64 most] 44)).alloc (.cells #[.int .i64 p, .int .i64 q] 30)).heap[w1.heap.size + 1]? = some (.cells #[.int .i64 p, .int .i64 q] 30) := by
    have := heap_alloc_new (w1.alloc (.cells #[.slice A0 ln c0, .int .i64 most] 44)) (.cells #[.int .i64 p, .int .i64 q] 30)
    simpa using this
  have cr2 := o2.blk Hcr1.out (by simp)
  have Hobj2 := Lib.hid (Hobj1.out.only o2 (by simp))
  have O2 := Lib.hid o2
  generalize (w1.alloc (.cells #[.slice A0 ln c0, .int .i64 most] 44)).alloc (.cells #[.int .i64 p, .int .i64 q] 30) = w2 at *
  have HF2 : Hid (∀ b ∈ F, b < w.heap.size) := fun b hb => Hlt.out b (owned_F hb)
  generalize hb1 : w1.heap.size = b1 at *
  have Hb1 := Lib.hid hb1
  generalize hb0 : w.heap.size + 1 = d1 at *
  have hb2 : w.heap.size + 2 = d1 + 1 := by omega
  rw [hb2] at cr2 hsz1
  refine (heap_Pop' Hobj2.out Hpqb.out).mono ?_
  rintro e w3 ⟨rfl, F3, h3, o3, hF3⟩
  have n1 : b1 ∉ F := fun hm => by have := HF2.out _ hm; omega
  have n2 : b1 + 1 ∉ F := fun hm => by have := HF2.out _ hm; omega
  have n3 : d1 + 1 ∉ F := fun hm => by have := HF2.out _ hm; omega
  have y1 := o3.blk hx9 n1
  have y2 := o3.blk hx10 n2
  have y3 := o3.blk cr2 n3
  have H3 := Lib.hid (And.intro h3 (And.intro o3 hF3))
  have z1 := lt_of_blk y1
  have z2 := lt_of_blk y2
  have z3 := lt_of_blk y3
  have Hz := Lib.hid (And.intro z1 (And.intro z2 z3))
  clear hx9 hx10 cr2 o2 h3 o3 hF3 n1 n2 n3 z1 z2 z3
  have o4 : Only [] w3 (w3.alloc (.cells #[.int .i64 p, .int .i64 q] 30)) := (Only.refl _ _).alloc _
  have y4 := heap_alloc_new w3 (.cells #[.int .i64 p, .int .i64 q] 30)
  have Y := Lib.hid (And.intro (o4.blk y1 (by simp)) (And.intro (o4.blk y2 (by simp)) (And.intro (o4.blk y3 (by simp)) y4)))
  have O4 := Lib.hid o4
  clear o4 y1 y2 y3 y4
  go_wp2_with fail
  generalize w3.alloc (.cells #[.int .i64 p, .int .i64 q] 30) = w4 at *
  generalize hb3 : w3.heap.size = b3 at *
  obtain ⟨y1, y2, y3, y4⟩ := Y.out
  have k1 : w4.cell? ⟨b1, 0, none⟩ = some (.slice A0 ln c0) := by rw [cell_of_blk y1]; rfl
  have k2 : w4.cell? ⟨b1, 1, none⟩ = some (.int .i64 most) := by rw [cell_of_blk y1]; rfl
  have k3 : w4.cell? ⟨b1 + 1, 0, none⟩ = some (.int .i64 p) := by rw [cell_of_blk y2]; rfl
  have k4 : w4.cell? ⟨b1 + 1, 1, none⟩ = some (.int .i64 q) := by rw [cell_of_blk y2]; rfl
  have k5 : w4.cell? ⟨d1 + 1, 0, none⟩ = some (.slice none 0 0) := by rw [cell_of_blk y3]; rfl
  have k6 : w4.cell? ⟨d1 + 1, 1, none⟩ = some (.int .i64 0) := by rw [cell_of_blk y3]; rfl
  have k7 : w4.cell? ⟨b3, 0, none⟩ = some (.int .i64 p) := by rw [cell_of_blk y4]; rfl
  have k8 : w4.cell? ⟨b3, 1, none⟩ = some (.int .i64 q) := by rw [cell_of_blk y4]; rfl
  have k9 : ∀ q, w4.frozen? ⟨d1 + 1, q, none⟩ = false := fun q => frozen_of_blk y3
  have e1 : b1 ≠ d1 + 1 := by omega
  have e2 : b1 + 1 ≠ d1 + 1 := by omega
  have e3 : b3 ≠ d1 + 1 := by obtain ⟨z1, z2, z3⟩ := Hz.out; omega
  have hg := guard_timer
  have he := eql_timer
  have e4 : (p == p && q == q) = true := by simp
  have e5 : (b == b) = true := by simp
  clear y1 y2 y3 y4 Y hb3
  go_region
  all_goals go_wp2_with fail
  all_goals
    refine bodyPost_ret (v := .tuple #[.agg #[.slice A0 ln c0, .int .i64 most], .bool true]) (by simp [results, Try.results25, go_sem, Act.put, k5, k6]) rfl ⟨_, rfl, ?_⟩
    obtain ⟨h3, o3, hF3⟩ := H3.out
    refine After.of Hs.out OA.out R1.out.1 R1.out.2.1 R1.out.2.2 O2.out h3 o3 hF3 [d1 + 1] (w4 := ?_) ?_ (fun k hk => by
      have e1 := HszA.out
      simp only [List.mem_singleton] at hk
      omega)
    exact (((O4.out.mono (by simp)).setCell (.inl (by simp)) _).setCell (.inl (by simp)) _).drew
end Go.Proofs.Ytcppnmogdmpdbaa
