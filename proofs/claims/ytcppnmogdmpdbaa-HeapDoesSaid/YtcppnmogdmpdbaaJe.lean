/- HeapDoes: a deed that drops, and a deed that takes what is due, walked. -/
import Derived.Test.YtcppnmogdmpdbaaJd
namespace Go.Proofs.Ytcppnmogdmpdbaa
open Go.RowKit Go.Mk Go.Hp Go.Proofs.Ytcppnmogdmpdbaa.PHeapDoes Go.Proofs.YtcppnmogdmpdbaaW.PrintWords
set_option linter.unusedVariables false
attribute [-go_sem] Builtin.append_

theorem heap_Drop' {w : World} {hp : Nat} {F : List Nat} {most : Int} {S : List Tm} (h : HeapObj w hp F most S) (no : Int) :
    Calls Try.prog 20 #[.pointer (some ⟨hp, 0, none⟩), .int .i64 no] w fun e w' => e = .returned (.bool (hasT no S)) ∧ ∃ F', HeapObj w' hp F' most (dropT no S) ∧ Only F w w' ∧ (∀ b ∈ F', b ∈ F ∨ w.heap.size ≤ b) := by
  refine (heap_Drop h no).mono ?_
  rintro e w' ⟨rfl, h', o'⟩
  exact ⟨rfl, F, h', o', fun b hb => .inl hb⟩

set_option maxRecDepth 100000 in
set_option maxHeartbeats 600000 in
theorem does_drop {w0 w : World} {hp : Nat} {F : List Nat} {most : Int} {v : Value} {S : List Tm} (h : Both w0 w hp F most v S) (x y z : Int) (hx : 0 ≤ x ∧ x ≤ 255) (hy : 0 ≤ y ∧ y ≤ 255) (hz : 0 ≤ z ∧ z ≤ 255)
    (hx6 : x % 6 = 4) :
    Calls Try.prog 25 #[.pointer (some ⟨hp, 0, none⟩), .agg #[v, .int .i64 most], .agg #[.int .u8 x, .int .u8 y, .int .u8 z]] w fun e w' => ∃ v', e = .returned (.tuple #[.agg #[v', .int .i64 most], .bool true]) ∧ After w0 w w' hp F most v v' := by
  have HB := Lib.hid h
  have t6 : x.tmod 6 = 4 := by rw [Int.tmod_eq_emod_of_nonneg hx.1, hx6]
  have t16 : z.tmod 16 = z % 16 := Int.tmod_eq_emod_of_nonneg hz.1
  obtain ⟨no, hno⟩ : ∃ no, z % 16 = no := ⟨_, rfl⟩
  rw [hno] at t16
  have hn0 : 0 ≤ no := by omega
  have hn1 : no < 16 := by omega
  obtain ⟨hx0, hx1⟩ := hx
  obtain ⟨hy0, hy1⟩ := hy
  obtain ⟨hz0, hz1⟩ := hz
  clear h hno hx6
  go_enter Try.func25, Try.ntmps25
  go_wp2_with fail
  obtain ⟨oA, cd, cr, szA⟩ := does_start w (.cells #[v, .int .i64 most] 44) (.cells #[.int .u8 x, .int .u8 y, .int .u8 z] 51) (.cells #[.slice none 0 0, .int .i64 0] 44)
  have OA := Lib.hid oA
  have hBA := HB.out.only oA (by simp)
  have Hcd := Lib.hid cd
  have Hcr := Lib.hid cr
  have HszA := Lib.hid szA
  have Hlt := Lib.hid HB.out.lt
  clear oA cd cr szA
  generalize ((w.alloc (.cells #[v, .int .i64 most] 44)).alloc (.cells #[.int .u8 x, .int .u8 y, .int .u8 z] 51)).alloc (.cells #[.slice none 0 0, .int .i64 0] 44) = wA at *
  refine (ref_Drop hBA.ref most no hBA.len hBA.obj.nos).mono ?_
  rintro e w1 ⟨v0, rfl, r1, o1, hv0⟩
  obtain ⟨A0, c0, rfl⟩ := Kd.R_slice r1.2
  have hvb : ∀ k, k = w.heap.size + 1 ∨ k = w.heap.size + 2 → k ∉ v.ownBlock.toList := fun k hk hm => by
    have := Hlt.out k (owned_v (by simpa using hm)); omega
  have cd1 := o1.blk Hcd.out (hvb _ (.inl rfl))
  have cr1 := o1.blk Hcr.out (hvb _ (.inr rfl))
  have k1 : w1.cell? ⟨w.heap.size + 1, 1, none⟩ = some (.int .u8 y) := by rw [cell_of_blk cd1]; rfl
  have R1 := Lib.hid (⟨r1, o1, hv0⟩ : RefIs w0 w1 (.slice A0 _ c0) _ ∧ Only v.ownBlock.toList wA w1 ∧ (∀ k, (Value.slice A0 _ c0).ownBlock = some k → v.ownBlock = some k ∨ wA.heap.size ≤ k))
  have Hobj1 := Lib.hid (hBA.obj.only o1 (fun b hb hm => HB.out.apart b (by simpa using hm) hb))
  have Hcr1 := Lib.hid cr1
  have Hs := Lib.hid HB.out
  have hsz1 : w.heap.size + 2 < w1.heap.size := lt_of_blk cr1
  generalize hq : hasT no S = pt at *
  have Hq := Lib.hid hq
  clear hq r1 o1 hv0 cd1 cr1 hBA
  go_wp2_with fail
  have o2 : Only [] w1 (w1.alloc (.cells #[.slice A0 (refL (dropT no S)).length c0, .int .i64 most] 44)) := (Only.refl _ _).alloc _
  have hx9 := heap_alloc_new w1 (.cells #[.slice A0 (refL (dropT no S)).length c0, .int .i64 most] 44)
  have hs2 : w1.heap.size < (w1.alloc (.cells #[.slice A0 (refL (dropT no S)).length c0, .int .i64 most] 44)).heap.size := by simp
  have k2 := o2.cell k1 (by simp)
  have cr2 := o2.blk Hcr1.out (by simp)
  have Hobj2 := Lib.hid (Hobj1.out.only o2 (by simp))
  have O2 := Lib.hid o2
  have Hsz1 := Lib.hid hsz1
  generalize w1.alloc (.cells #[.slice A0 (refL (dropT no S)).length c0, .int .i64 most] 44) = w2 at *
  have HF2 : Hid (∀ b ∈ F, b < w.heap.size) := fun b hb => Hlt.out b (owned_F hb)
  generalize hb1 : w1.heap.size = b1 at *
  have Hb1 := Lib.hid hb1
  generalize hb0 : w.heap.size + 1 = d1 at *
  have hb2 : w.heap.size + 2 = d1 + 1 := by omega
  rw [hb2] at cr2 hsz1
  have Hth : Hid (∀ w3, Only F w2.drew w3 → w3.cell? ⟨b1, 0, none⟩ = some (.slice A0 (refL (dropT no S)).length c0) ∧ w3.cell? ⟨b1, 1, none⟩ = some (.int .i64 most) ∧ w3.cell? ⟨d1, 1, none⟩ = some (.int .u8 y) ∧
      w3.heap[d1 + 1]? = some (.cells #[.slice none 0 0, .int .i64 0] 44)) := fun w3 o3 => by
    have n1 : b1 ∉ F := fun hm => by have := HF2.out _ hm; omega
    have n2 : d1 ∉ F := fun hm => by have := HF2.out _ hm; omega
    have n3 : d1 + 1 ∉ F := fun hm => by have := HF2.out _ hm; omega
    have h9 := (((Only.refl F _).drew).trans o3).blk hx9 n1
    exact ⟨by rw [cell_of_blk h9]; rfl, by rw [cell_of_blk h9]; rfl, (((Only.refl F _).drew).trans o3).cell k2 n2, (((Only.refl F _).drew).trans o3).blk cr2 n3⟩
  have q0 : w2.cell? ⟨b1, 0, none⟩ = some (.slice A0 (refL (dropT no S)).length c0) := by rw [cell_of_blk hx9]; rfl
  have q1 : w2.cell? ⟨b1, 1, none⟩ = some (.int .i64 most) := by rw [cell_of_blk hx9]; rfl
  have q2 : ∀ q, w2.frozen? ⟨d1 + 1, q, none⟩ = false := fun q => frozen_of_blk cr2
  have hcP : Hid (Calls Try.prog 20 #[.pointer (some ⟨hp, 0, none⟩), .int .i64 no] w2.drew fun e w' => e = .returned (.bool pt) ∧
      ∃ F', HeapObj w' hp F' most (dropT no S) ∧ Only F w2.drew w' ∧ (∀ b ∈ F', b ∈ F ∨ w2.heap.size ≤ b)) := by
    have := heap_Drop' (Hobj2.out.only (Only.drew (Only.refl [] w2)) (by simp)) no
    rw [Hq.out] at this
    exact this
  have e5 : (pt == pt) = true := by simp
  clear hx9 cr2 o2
  go_region_with (go_at_call 20; go_must (refine hcP.out.mono ?_; rintro e w3 ⟨rfl, F3, h3, o3, hF3⟩; (obtain ⟨g0, g1, g2, g3⟩ := Hth.out w3 o3); (have g4 : ∀ q, w3.frozen? ⟨d1 + 1, q, none⟩ = false := fun q => frozen_of_blk g3); (have g5 : w3.cell? ⟨d1 + 1, 0, none⟩ = some (.slice none 0 0) := by rw [cell_of_blk g3]; rfl); (have g6 : w3.cell? ⟨d1 + 1, 1, none⟩ = some (.int .i64 0) := by rw [cell_of_blk g3]; rfl); have H3 := Lib.hid (And.intro h3 (And.intro o3 hF3)); clear h3 o3 hF3 g3))
  all_goals go_wp2_with fail
  all_goals
    refine bodyPost_ret (v := .tuple #[.agg #[.slice A0 (refL (dropT no S)).length c0, .int .i64 most], .bool true]) (by simp [results, Try.results25, go_sem, Act.put, g5, g6]) rfl ⟨_, rfl, ?_⟩
    obtain ⟨h3, o3, hF3⟩ := H3.out
    exact After.of Hs.out OA.out R1.out.1 R1.out.2.1 R1.out.2.2 O2.out.drew h3 o3 hF3 [d1 + 1] (((Only.refl _ _).setCell (.inl (by simp)) _).setCell (.inl (by simp)) _) (fun k hk => by
      have e1 := HszA.out
      simp only [List.mem_singleton] at hk
      omega)

end Go.Proofs.Ytcppnmogdmpdbaa
