/- Package prio, walked: all draws times a weight. -/
import Derived.Test.YtbboklmmnnedjaaPj
set_option linter.unusedVariables false
set_option linter.unusedSimpArgs false
namespace Go.Proofs.Ytbboklmmnnedjaa
open Go.RowKit Go.Mk Go.Pr

def allN (draws weight : Nat) : Nat := weight * (if draws = 0 then big else draws)

set_option maxRecDepth 100000 in
set_option maxHeartbeats 1000000 in
theorem all_walk {w : World} (hp draws weight : Nat) (hc : w.cell? ⟨hp, 2, none⟩ = some (.int .u64 draws)) (hw : weight < big) (hd : draws < big) :
    Calls Try.prog 34 #[.pointer (some ⟨hp, 0, none⟩), .int .u64 weight] w fun e w' => e = .returned (.agg (wideV (allN draws weight))) ∧ Only [] w w' := by
  have hlt := lt_of_cell hc
  have oa : Only [] w (w.alloc (.cells #[.int .u64 0, .int .u64 0] 75)) := (Only.refl _ _).alloc _
  have hb := heap_alloc_new w (.cells #[.int .u64 0, .int .u64 0] 75)
  have hc2 := oa.cell hc (by simp)
  have OA := Lib.hid oa
  have HB := Lib.hid hb
  have HC := Lib.hid hc2
  by_cases hz : draws = 0
  · have hA : allN draws weight = weight * big := by rw [allN, if_pos hz]
    have h1 : weight * big / big = weight := Nat.mul_div_cancel _ (by decide)
    have h2 : weight * big % big = 0 := Nat.mul_mod_left _ _
    rw [hA]
    unfold wideV
    rw [h1, h2]
    clear hA h1 h2 oa hb hc2
    have g1 : ((draws : Int) == 0) = true := beq_iff_eq.2 (by omega)
    go_enter Try.func34, Try.ntmps34
    go_wp2_with fail
    exact bodyPost_ret (v := .agg #[.int .u64 (weight : Int), .int .u64 0]) (by simp [results, Try.results34, go_sem, *]) rfl ⟨rfl, (Only.refl _ _).alloc _⟩
  · have hA : allN draws weight = weight * draws := by rw [allN, if_neg hz]
    have g1 : ((draws : Int) == 0) = false := beq_eq_false_iff_ne.2 (by omega)
    rw [hA]
    have C := Lib.hid (fun W => times_walk weight draws W hw hd)
    clear hA oa hb hc2
    unfold wideV at C ⊢
    generalize weight * draws / big = N at *
    generalize weight * draws % big = M at *
    go_enter Try.func34, Try.ntmps34
    go_wp2_with fail
    generalize w.alloc (.cells #[.int .u64 0, .int .u64 0] 75) = w1 at *
    generalize hrb : w.heap.size = rb at *
    have HR := Lib.hid hrb
    clear hrb
    refine (C.out w1).mono ?_
    rintro e w2 ⟨rfl, o2⟩
    have O2 := Lib.hid (OA.out.trans o2)
    have hb2 := o2.blk HB.out (by simp)
    have fr : ∀ j, w2.frozen? ⟨rb, j, none⟩ = false := fun j => frozen_of_blk hb2
    have fr0 := fr 0
    have fr1 := fr 1
    have ltr := lt_of_blk hb2
    have r0 : w2.cell? ⟨rb, 0, none⟩ = some (.int .u64 0) := by rw [cell_of_blk hb2]; rfl
    have r1 : w2.cell? ⟨rb, 1, none⟩ = some (.int .u64 0) := by rw [cell_of_blk hb2]; rfl
    clear o2 hb2 fr C
    go_wp2_with fail
    exact bodyPost_ret (v := .agg #[.int .u64 (N : Int), .int .u64 (M : Int)]) (by simp [results, Try.results34, go_sem, *]) rfl ⟨rfl, O2.out.trans' (((Only.refl [rb] w2).setCell (p := ⟨rb, 0, none⟩) (.inl (by simp)) _).setCell (p := ⟨rb, 1, none⟩) (.inl (by simp)) _) (fun x hx hlt => by
      simp only [List.mem_singleton] at hx
      have := HR.out
      omega)⟩

end Go.Proofs.Ytbboklmmnnedjaa
