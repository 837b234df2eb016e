/- HeapDoes: a deed that takes what is due, walked. -/
import Derived.Test.YtcppnmogdmpdbaaJe
namespace Go.Proofs.Ytcppnmogdmpdbaa
open Go.RowKit Go.Mk Go.Hp Go.Proofs.Ytcppnmogdmpdbaa.PHeapDoes Go.Proofs.YtcppnmogdmpdbaaW.PrintWords
set_option linter.unusedVariables false
attribute [-go_sem] Builtin.append_

set_option maxRecDepth 100000 in
set_option maxHeartbeats 600000 in
theorem does_due {w0 w : World} {hp : Nat} {F : List Nat} {most : Int} {v : Value} {S : List Tm} (h : Both w0 w hp F most v S) (x y z : Int) (hx : 0 ≤ x ∧ x ≤ 255) (hy : 0 ≤ y ∧ y ≤ 255) (hz : 0 ≤ z ∧ z ≤ 255)
    (hx6 : x % 6 = 5) :
    Calls Try.prog 25 #[.pointer (some ⟨hp, 0, none⟩), .agg #[v, .int .i64 most], .agg #[.int .u8 x, .int .u8 y, .int .u8 z]] w fun e w' => ∃ v', e = .returned (.tuple #[.agg #[v', .int .i64 most], .bool true]) ∧ After w0 w w' hp F most v v' := by
  have HB := Lib.hid h
  have t6 : x.tmod 6 = 5 := by rw [Int.tmod_eq_emod_of_nonneg hx.1, hx6]
  have t16 : z.tmod 16 = z % 16 := Int.tmod_eq_emod_of_nonneg hz.1
  have t9 : y.tmod 7 = y % 7 := Int.tmod_eq_emod_of_nonneg hy.1
  obtain ⟨no, hno⟩ : ∃ no, z % 16 = no := ⟨_, rfl⟩
  obtain ⟨at9, hat⟩ : ∃ no, y % 7 = no := ⟨_, rfl⟩
  rw [hno] at t16
  rw [hat] at t9
  have hwr : IntKind.i64.wrap at9 = at9 := by simp [IntKind.wrap, IntKind.bits, IntKind.signed]; omega
  have hn0 : 0 ≤ no := by omega
  have hn1 : no < 16 := by omega
  have ha0 : 0 ≤ at9 := by omega
  have ha1 : at9 < 7 := by omega
  obtain ⟨hx0, hx1⟩ := hx
  obtain ⟨hy0, hy1⟩ := hy
  obtain ⟨hz0, hz1⟩ := hz
  clear h hno hat hx6
  go_enter Try.func25, Try.ntmps25
  go_wp2_with fail
  obtain ⟨oA, cd, cr, szA⟩ := does_start w (.cells #[v, .int .i64 most] 44) (.cells #[.int .u8 x, .int .u8 y, .int .u8 z] 51) (.cells #[.slice none 0 0, .int .i64 0] 44)
  have OA := Lib.hid oA
  have hBA := HB.out.only oA (by simp)
  have Hcd := Lib.hid cd
  have Hcr := Lib.hid cr
  have HszA := Lib.hid szA
  have Hlt := Lib.hid HB.out.lt
  clear oA cd cr szA
  generalize ((w.alloc (.cells #[v, .int .i64 most] 44)).alloc (.cells #[.int .u8 x, .int .u8 y, .int .u8 z] 51)).alloc (.cells #[.slice none 0 0, .int .i64 0] 44) = wA at *
  refine (ref_Due hBA.ref most at9 hBA.len hBA.obj.nos).mono ?_
  rintro e w1 ⟨v0, v1, rfl, r1, rv1, o1, hv0, hv1⟩
  obtain ⟨A0, c0, rfl⟩ := Kd.R_slice r1.2
  obtain ⟨A1, c1, rfl⟩ := Kd.R_slice rv1.2
  have RV := Lib.hid (And.intro rv1 hv1)
  have hvb : ∀ k, k = w.heap.size + 1 ∨ k = w.heap.size + 2 → k ∉ v.ownBlock.toList := fun k hk hm => by
    have := Hlt.out k (owned_v (by simpa using hm)); omega
  have cd1 := o1.blk Hcd.out (hvb _ (.inl rfl))
  have cr1 := o1.blk Hcr.out (hvb _ (.inr rfl))
  have k1 : w1.cell? ⟨w.heap.size + 1, 1, none⟩ = some (.int .u8 y) := by rw [cell_of_blk cd1]; rfl
  have R1 := Lib.hid (⟨r1, o1, hv0⟩ : RefIs w0 w1 (.slice A0 _ c0) _ ∧ Only v.ownBlock.toList wA w1 ∧ (∀ k, (Value.slice A0 _ c0).ownBlock = some k → v.ownBlock = some k ∨ wA.heap.size ≤ k))
  have Hobj1 := Lib.hid (hBA.obj.only o1 (fun b hb hm => HB.out.apart b (by simpa using hm) hb))
  have Hcr1 := Lib.hid cr1
  have Hs := Lib.hid HB.out
  have hsz1 : w.heap.size + 2 < w1.heap.size := lt_of_blk cr1
  clear rv1 hv1 r1 o1 hv0 cd1 cr1 hBA
  go_wp2_with fail
  have o2 : Only [] w1 (w1.alloc (.cells #[.slice A0 (refL (restDue at9 S)).length c0, .int .i64 most] 44)) := (Only.refl _ _).alloc _
  have hx9 := heap_alloc_new w1 (.cells #[.slice A0 (refL (restDue at9 S)).length c0, .int .i64 most] 44)
  have hs2 : w1.heap.size < (w1.alloc (.cells #[.slice A0 (refL (restDue at9 S)).length c0, .int .i64 most] 44)).heap.size := by simp
  have k2 := o2.cell k1 (by simp)
  have cr2 := o2.blk Hcr1.out (by simp)
  have Hobj2 := Lib.hid (Hobj1.out.only o2 (by simp))
  have O2 := Lib.hid o2
  have Hsz1 := Lib.hid hsz1
  generalize w1.alloc (.cells #[.slice A0 (refL (restDue at9 S)).length c0, .int .i64 most] 44) = w2 at *
  have HF2 : Hid (∀ b ∈ F, b < w.heap.size) := fun b hb => Hlt.out b (owned_F hb)
  generalize hb1 : w1.heap.size = b1 at *
  have Hb1 := Lib.hid hb1
  generalize hb0 : w.heap.size + 1 = d1 at *
  have hb2 : w.heap.size + 2 = d1 + 1 := by omega
  rw [hb2] at cr2 hsz1
  have Hth : Hid (∀ w3, Only F w2.drew w3 → w3.cell? ⟨b1, 0, none⟩ = some (.slice A0 (refL (restDue at9 S)).length c0) ∧ w3.cell? ⟨b1, 1, none⟩ = some (.int .i64 most) ∧ w3.cell? ⟨d1, 1, none⟩ = some (.int .u8 y) ∧
      w3.heap[d1 + 1]? = some (.cells #[.slice none 0 0, .int .i64 0] 44)) := fun w3 o3 => by
    have n1 : b1 ∉ F := fun hm => by have := HF2.out _ hm; omega
    have n2 : d1 ∉ F := fun hm => by have := HF2.out _ hm; omega
    have n3 : d1 + 1 ∉ F := fun hm => by have := HF2.out _ hm; omega
    have h9 := (((Only.refl F _).drew).trans o3).blk hx9 n1
    exact ⟨by rw [cell_of_blk h9]; rfl, by rw [cell_of_blk h9]; rfl, (((Only.refl F _).drew).trans o3).cell k2 n2, (((Only.refl F _).drew).trans o3).blk cr2 n3⟩
  have q0 : w2.cell? ⟨b1, 0, none⟩ = some (.slice A0 (refL (restDue at9 S)).length c0) := by rw [cell_of_blk hx9]; rfl
  have q1 : w2.cell? ⟨b1, 1, none⟩ = some (.int .i64 most) := by rw [cell_of_blk hx9]; rfl
  have q2 : ∀ q, w2.frozen? ⟨d1 + 1, q, none⟩ = false := fun q => frozen_of_blk cr2
  have hcP : Hid (Calls Try.prog 22 #[.pointer (some ⟨hp, 0, none⟩), .int .i64 at9] w2.drew fun e w' => ∃ ov, e = .returned ov ∧ SliceIs w' 30 2 ((takeDue at9 S).map encT) ov ∧
      HeapObj w' hp F most (restDue at9 S) ∧ Only F w2.drew w') :=
    (heap_Due (Hobj2.out.only (Only.drew (Only.refl [] w2)) (by simp)) at9).mono fun e w' ⟨ov, h1, h2, h3, h4, _⟩ => ⟨ov, h1, h2, h3, h4⟩
  have hcS : Hid (∀ w3 ov, Only F w2.drew w3 → SliceIs w3 30 2 ((takeDue at9 S).map encT) ov → Calls Try.prog 28 #[ov, .slice A1 (refL (takeDue at9 S)).length c1] w3 fun e w' => e = .returned (.bool true) ∧ Only [] w3 w') := fun w3 ov o3 hsl => by
    obtain ⟨rv, hv⟩ := RV.out
    refine ref_Same (((rv.only O2.out (by simp) (by simp)).only (Only.drew (Only.refl [] w2)) (by simp) (by simp)).only o3 (fun k hk hm => ?_) Hs.out.since) hsl (Nat.le_trans (List.Sublist.length_le (List.takeWhile_sublist _)) Hs.out.len)
    rcases hv k hk with h1 | h1
    · exact Hs.out.apart k h1 hm
    · have := HF2.out k hm
      have := HszA.out
      omega
  clear hx9 cr2 o2
  go_region_with (first
    | (go_at_call 22; go_must (refine hcP.out.mono ?_; rintro e w3 ⟨ov, rfl, hsl, h3, o3⟩; (obtain ⟨g0, g1, g2, g3⟩ := Hth.out w3 o3); have H3 := Lib.hid (And.intro h3 (And.intro o3 (And.intro hsl g3))); clear h3 o3 hsl g3))
    | (go_at_call 28; go_must (refine (hcS.out w3 ov H3.out.2.1 H3.out.2.2.1).mono ?_; rintro e w5 ⟨rfl, o5⟩; have g10 := o5.cell g0 (by simp); have g11 := o5.cell g1 (by simp); have g3 := o5.blk H3.out.2.2.2 (by simp); (have g4 : ∀ q, w5.frozen? ⟨d1 + 1, q, none⟩ = false := fun q => frozen_of_blk g3); (have g5 : w5.cell? ⟨d1 + 1, 0, none⟩ = some (.slice none 0 0) := by rw [cell_of_blk g3]; rfl); (have g6 : w5.cell? ⟨d1 + 1, 1, none⟩ = some (.int .i64 0) := by rw [cell_of_blk g3]; rfl); have O5 := Lib.hid o5; clear o5 g3 g0 g1 g2)))
  all_goals go_wp2_with fail
  all_goals
    refine bodyPost_ret (v := .tuple #[.agg #[.slice A0 (refL (restDue at9 S)).length c0, .int .i64 most], .bool true]) (by simp [results, Try.results25, go_sem, Act.put, g5, g6]) rfl ⟨_, rfl, ?_⟩
    obtain ⟨h3, o3, _, _⟩ := H3.out
    exact After.of Hs.out OA.out R1.out.1 R1.out.2.1 R1.out.2.2 O2.out.drew h3 o3 (fun b hb => .inl hb) [d1 + 1] (((O5.out.mono (by simp)).setCell (.inl (by simp)) _).setCell (.inl (by simp)) _) (fun k hk => by
      have e1 := HszA.out
      simp only [List.mem_singleton] at hk
      omega)

end Go.Proofs.Ytcppnmogdmpdbaa
