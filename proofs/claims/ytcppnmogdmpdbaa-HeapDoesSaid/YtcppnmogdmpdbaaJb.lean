/- The document's heap, called: contracts of the reference functions, on timers in order. -/
import Derived.Test.YtcppnmogdmpdbaaJa
import Derived.Test.YtcppnmogdmpdbaaMb
namespace Go.Proofs.Ytcppnmogdmpdbaa
open Go.RowKit Go.Mk Go.Hp Go.Proofs.Ytcppnmogdmpdbaa.PHeapDoes Go.Proofs.YtcppnmogdmpdbaaW.PrintWords Go.Proofs.YtcppnmogdmpdbaaW.PrintLast Go.Proofs.YtcppnmogdmpdbaaW.PrintMore
set_option linter.unusedVariables false

/-- The value v is the reference's row: the timers S, in a block made since w0. -/
def RefIs (w0 w : World) (v : Value) (S : List Tm) : Prop :=
  Below w0.heap.size w0 w ∧ Kd.R k30 30 w w0.heap.size (fun k => some k = v.ownBlock) v (refL S)

theorem RefIs.only {w0 w w' : World} {v : Value} {S : List Tm} {F : List Nat} (h : RefIs w0 w v S) (ho : Only F w w') (hn : ∀ k, v.ownBlock = some k → k ∉ F) (hF : ∀ k ∈ F, w0.heap.size ≤ k) : RefIs w0 w' v S :=
  ⟨h.1.trans (ho.below h.1.size hF), Kd.R_step h.2 (fun k hk hlt => ho.block k hlt (hn k hk.symm))⟩
theorem RefIs.lt {w0 w : World} {v : Value} {S : List Tm} (h : RefIs w0 w v S) : ∀ k, v.ownBlock = some k → k < w.heap.size := Kd.R_lt h.2
theorem RefIs.base {w0 w : World} {v : Value} {S : List Tm} (h : RefIs w0 w v S) : ∀ k, v.ownBlock = some k → w0.heap.size ≤ k := Kd.R_base h.2
theorem only_of_kept {w0 w w' : World} {v : Value} (h : Below w0.heap.size w0 w) (h' : Below w0.heap.size w0 w') (hk : Kept w w' (fun k => some k = v.ownBlock)) : Only v.ownBlock.toList w w' :=
  ⟨h'.os.trans h.os.symm, h'.tape.trans h.tape.symm, h'.output.trans h.output.symm, hk.1, fun k hlt hn => hk.2 k hlt (fun e => hn (by rw [← e]; simp))⟩
theorem RefIs.of {w0 w' : World} {v0 : Value} {S : List Tm} {P : Nat → Prop} (hb : Below w0.heap.size w0 w') (h : Kd.R k30 30 w' w0.heap.size P v0 (refL S)) : RefIs w0 w' v0 S :=
  ⟨hb, Kd.R_mono (Kd.R_tight2 rfl h) (fun k hk => hk.1)⟩

def pushS (t : Tm) (S : List Tm) (most : Int) : List Tm := if pushTold t S most = 0 then insT t S else S

theorem ref_Push {w0 w : World} {v : Value} {S : List Tm} (h : RefIs w0 w v S) (most : Int) (t : Tm) (hS : S.length ≤ 5000) :
    Calls Try.prog 24 #[.agg #[v, .int .i64 most], .agg #[.int .i64 t.1, .int .i64 t.2]] w fun e w' => ∃ v0, e = .returned (.tuple #[.agg #[v0, .int .i64 most], .int .i64 (pushTold t S most)]) ∧
      RefIs w0 w' v0 (pushS t S most) ∧ Only v.ownBlock.toList w w' ∧ (∀ k, v0.ownBlock = some k → v.ownBlock = some k ∨ w.heap.size ≤ k) := by
  refine (telemeterref10_Push.calls 5001 _ v (refL S) most t.1 t.2 _ _ _ w0 w h.1 h.2 (push_f t most S hS (Nat.le_refl _))).mono ?_
  rintro e w' ⟨v0, he, hr, hb, hk⟩
  exact ⟨v0, he, RefIs.of hb hr, only_of_kept h.1 hb hk, fun k hk2 => (hr.1 k hk2).imp Eq.symm id⟩

theorem ref_Drop {w0 w : World} {v : Value} {S : List Tm} (h : RefIs w0 w v S) (most : Int) (no : Int) (hS : S.length ≤ 5000) (hn : (S.map (·.2)).Nodup) :
    Calls Try.prog 50 #[.agg #[v, .int .i64 most], .int .i64 no] w fun e w' => ∃ v0, e = .returned (.tuple #[.agg #[v0, .int .i64 most], .bool (hasT no S)]) ∧
      RefIs w0 w' v0 (dropT no S) ∧ Only v.ownBlock.toList w w' ∧ (∀ k, v0.ownBlock = some k → v.ownBlock = some k ∨ w.heap.size ≤ k) := by
  refine (telemeterref10_Drop.calls 5001 _ v (refL S) most no _ _ _ w0 w h.1 h.2 (drop_f no most S hS hn (Nat.le_refl _))).mono ?_
  rintro e w' ⟨v0, he, hr, hb, hk⟩
  exact ⟨v0, he, RefIs.of hb hr, only_of_kept h.1 hb hk, fun k hk2 => (hr.1 k hk2).imp Eq.symm id⟩

theorem ref_Pop {w0 w : World} {v : Value} {S : List Tm} (h : RefIs w0 w v S) (most : Int) (hS : S.length ≤ 5000) (hn : (S.map (·.2)).Nodup) :
    Calls Try.prog 49 #[.agg #[v, .int .i64 most]] w fun e w' => ∃ v0, e = .returned (.tuple #[.agg #[v0, .int .i64 most], .agg #[.int .i64 (firstT S).1, .int .i64 (firstT S).2.1], .bool (firstT S).2.2]) ∧
      RefIs w0 w' v0 S.tail ∧ Only v.ownBlock.toList w w' ∧ (∀ k, v0.ownBlock = some k → v.ownBlock = some k ∨ w.heap.size ≤ k) := by
  refine (telemeterref10_Pop.calls 5001 _ v (refL S) most _ _ _ _ _ w0 w h.1 h.2 (pop_f most S hS hn (Nat.le_refl _))).mono ?_
  rintro e w' ⟨v0, he, hr, hb, hk⟩
  exact ⟨v0, he, RefIs.of hb hr, only_of_kept h.1 hb hk, fun k hk2 => (hr.1 k hk2).imp Eq.symm id⟩

theorem ref_Due {w0 w : World} {v : Value} {S : List Tm} (h : RefIs w0 w v S) (most : Int) (now : Int) (hS : S.length ≤ 5000) (hn : (S.map (·.2)).Nodup) :
    Calls Try.prog 27 #[.agg #[v, .int .i64 most], .int .i64 now] w fun e w' => ∃ v0 v1, e = .returned (.tuple #[.agg #[v0, .int .i64 most], v1]) ∧
      RefIs w0 w' v0 (restDue now S) ∧ RefIs w0 w' v1 (takeDue now S) ∧ Only v.ownBlock.toList w w' ∧ (∀ k, v0.ownBlock = some k → v.ownBlock = some k ∨ w.heap.size ≤ k) ∧ (∀ k, v1.ownBlock = some k → v.ownBlock = some k ∨ w.heap.size ≤ k) := by
  refine (telemeterref10_Due.calls 10002 _ v (refL S) most now _ _ _ w0 w h.1 h.2 (due_f now most S hS hn (Nat.le_refl _))).mono ?_
  rintro e w' ⟨v0, v1, he, hr, hr1, hb, hk⟩
  exact ⟨v0, v1, he, RefIs.of hb hr, RefIs.of hb hr1, only_of_kept h.1 hb hk, fun k hk2 => (hr.1 k hk2).1.imp Eq.symm id, fun k hk2 => (hr1.1 k hk2).1.imp Eq.symm id⟩

theorem ref_First {w0 w : World} {v : Value} {S : List Tm} (h : RefIs w0 w v S) (most : Int) :
    Calls Try.prog 26 #[.agg #[v, .int .i64 most]] w fun e w' => e = .returned (.tuple #[.agg #[.int .i64 (firstT S).1, .int .i64 (firstT S).2.1], .bool (firstT S).2.2]) ∧ Only [] w w' := by
  obtain ⟨A, c, rfl, hc, hC⟩ := Kd.R_reads h.2
  refine (telemeterref10_First.calls A c (refL S) most _ _ _ w hC hc (first_f most S)).mono ?_
  rintro e w' ⟨he, hb⟩
  exact ⟨he, Only.ofBelow hb (Nat.le_refl _) _⟩
theorem C_of_slice {w : World} {S : List Tm} {ov : Value} (ho : SliceIs w 30 2 (S.map encT) ov) : ∃ A c, ov = .slice A (refL S).length c ∧ (refL S).length ≤ c ∧ Kd.C k30 w A (refL S).length (refL S) := by
  generalize hX : S.map encT = X at ho
  cases ho with
  | nil =>
    have : S = [] := by simpa using hX
    subst this
    exact ⟨none, 0, rfl, Nat.le_refl _, Kd.C_nil _ _⟩
  | row h =>
    rename_i g off cap
    subst hX
    have hl : (refL S).length = (S.map encT).length := by simp [refL]
    have hf := h.fits
    have ht := h.top
    refine ⟨some ⟨g, off, none⟩, cap, by rw [hl], by rw [hl]; exact hf, rfl, ?_, fun _ => ⟨_, rfl, fun j p hp => ?_⟩⟩
    · rw [hl]; exact Nat.le_trans (Nat.le_trans hf ht) (by decide)
    · obtain ⟨t, htj, rfl⟩ : ∃ t, S[j]? = some t ∧ toS t = p := by simpa [refL] using hp
      refine ⟨encT t, rfl, ⟨_, _, rfl, rfl, rfl⟩, fun i u hu => ?_⟩
      have hc := h.cell (by rw [List.getElem?_map, htj]; rfl) hu
      have e2 : (⟨g, off, none⟩ : Addr).add (j * k30.sz + i) = ⟨g, off + j * 2 + i, none⟩ := by
        rw [show k30.sz = 2 from rfl]; simp [Addr.add, Nat.add_assoc]
      rw [e2]
      exact hc
theorem ref_Same {w0 w : World} {v ov : Value} {S : List Tm} (h : RefIs w0 w v S) (ho : SliceIs w 30 2 (S.map encT) ov) (hS : S.length ≤ 5000) :
    Calls Try.prog 28 #[ov, v] w fun e w' => e = .returned (.bool true) ∧ Only [] w w' := by
  obtain ⟨A, c, rfl, hc, hC⟩ := Kd.R_reads h.2
  obtain ⟨A', c', rfl, hc', hC'⟩ := C_of_slice ho
  refine (telemeterref10_Same.calls 5001 A' c' (refL S) A c (refL S) _ w hC' hc' hC hc (same_f S hS (Nat.le_refl _))).mono ?_
  rintro e w' ⟨he, hb⟩
  obtain ⟨n, rfl⟩ := hb.out
  exact ⟨he, (Only.refl _ _).drewN _⟩
theorem ref_New (m : Int) (w : World) (h1 : 1 ≤ m) (h2 : m ≤ 5000) :
    Calls Try.prog 23 #[.int .i64 m] w fun e w' => ∃ v0, e = .returned (.tuple #[.agg #[v0, .int .i64 m], .bool true]) ∧ RefIs w w' v0 [] ∧ Only [] w w' := by
  refine (telemeterref10_New.calls m [] m true w (by unfold telemeterref10_New.f; rw [if_pos h1]; simp [h2])).mono ?_
  rintro e w' ⟨v0, he, hr, hb⟩
  exact ⟨v0, he, RefIs.of hb hr, Only.ofBelow hb (Nat.le_refl _) _⟩
end Go.Proofs.Ytcppnmogdmpdbaa
