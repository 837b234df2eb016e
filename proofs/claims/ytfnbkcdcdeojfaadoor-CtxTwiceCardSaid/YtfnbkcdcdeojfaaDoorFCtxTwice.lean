/- The card of CtxTwice: whatever the input, the call returns true and changes nothing that was there; what the row lists is tied to the program's text; no conditions. -/
import Derived.Test.YtfnbkcdcdeojfaaDoorRows
import Derived.Test.YtfnbkcdcdeojfaaDoorTie
import Derived.Test.YtfnbkcdcdeojfaaDoorCards
import Derived.Test.YtfnbkcdcdeojfaaDoorCr
import Derived.Test.YtfnbkcdcdeojfaaDoorCw
import Derived.WalkKit
import Derived.ProofKit
import Derived.OpenShut
import Derived.ShutString
import Derived.ChangeOld
import Derived.Below
import Derived.LaidMore
import Derived.Lay
import Derived.SevenTiedAt
import Derived.Stop.Joined
import Derived.Shelf.Vars
import Derived.Lib.SmallJoins
namespace Go.Proofs.YtfnbkcdcdeojfaaDoor.ctxTwice
open Go.ChangeShapes Go.WideShapes Go.ChangeAt Go.RowKit Go.Cx
open Go.ChangeMaps (open_string shut_string)
set_option linter.unusedVariables false

theorem own : ownKnob Tryd.prog.godebug = none := by kernel_rfl
theorem laidOut : laidOutB Tryd.prog = true := by kernel_rfl

theorem walk (w : World) (a0_0 : Int) (w0_0 : (Lit.int .u64 a0_0).wf = true) (a0_1 : Int) (w0_1 : (Lit.int .u64 a0_1).wf = true) (a0_2 : Int) (w0_2 : (Lit.int .u64 a0_2).wf = true) (a0_3 : Int) (w0_3 : (Lit.int .u8 a0_3).wf = true) (a1 : Int) (w1 : (Lit.int .u64 a1).wf = true) (a2 : Int) (w2 : (Lit.int .u64 a2).wf = true) (a3 : Int) (w3 : (Lit.int .u64 a3).wf = true) (a4 : Int) (w4 : (Lit.int .u8 a4).wf = true) (m : Int) (hm : w.cell? ⟨0, 0, none⟩ = some (.int .i64 m)) :
    Calls Tryd.prog 8 #[.agg #[.int .u64 a0_0, .int .u64 a0_1, .int .u64 a0_2, .int .u8 a0_3], .int .u64 a1, .int .u64 a2, .int .u64 a3, .int .u8 a4] w fun e w' => e = .returned (.bool true) ∧ Below w.heap.size w w' := by
  obtain ⟨l0_0, h0_0⟩ := bounds_u64 w0_0
  obtain ⟨n0_0, rfl⟩ : ∃ n : Nat, a0_0 = n := ⟨a0_0.toNat, by omega⟩
  have h0_0 : n0_0 < big := by first | omega | (unfold big; omega)
  obtain ⟨l0_1, h0_1⟩ := bounds_u64 w0_1
  obtain ⟨n0_1, rfl⟩ : ∃ n : Nat, a0_1 = n := ⟨a0_1.toNat, by omega⟩
  have h0_1 : n0_1 < big := by first | omega | (unfold big; omega)
  obtain ⟨l0_2, h0_2⟩ := bounds_u64 w0_2
  obtain ⟨n0_2, rfl⟩ : ∃ n : Nat, a0_2 = n := ⟨a0_2.toNat, by omega⟩
  have h0_2 : n0_2 < big := by first | omega | (unfold big; omega)
  obtain ⟨l0_3, h0_3⟩ := bounds_u8 w0_3
  obtain ⟨n0_3, rfl⟩ : ∃ n : Nat, a0_3 = n := ⟨a0_3.toNat, by omega⟩
  have h0_3 : n0_3 < 256 := by first | omega | (unfold big; omega)
  obtain ⟨l1, h1⟩ := bounds_u64 w1
  obtain ⟨n1, rfl⟩ : ∃ n : Nat, a1 = n := ⟨a1.toNat, by omega⟩
  have h1 : n1 < big := by first | omega | (unfold big; omega)
  obtain ⟨l2, h2⟩ := bounds_u64 w2
  obtain ⟨n2, rfl⟩ : ∃ n : Nat, a2 = n := ⟨a2.toNat, by omega⟩
  have h2 : n2 < big := by first | omega | (unfold big; omega)
  obtain ⟨l3, h3⟩ := bounds_u64 w3
  obtain ⟨n3, rfl⟩ : ∃ n : Nat, a3 = n := ⟨a3.toNat, by omega⟩
  have h3 : n3 < big := by first | omega | (unfold big; omega)
  obtain ⟨l4, h4⟩ := bounds_u8 w4
  obtain ⟨n4, rfl⟩ : ∃ n : Nat, a4 = n := ⟨a4.toNat, by omega⟩
  have h4 : n4 < 256 := by first | omega | (unfold big; omega)
  exact (twice_walk ⟨n0_0, n0_1, n0_2, n0_3⟩ n1 n2 n3 n4 m w ⟨h0_0, h0_1, h0_2, h0_3⟩ h1 h2 h3 h4 hm).mono fun e w' ⟨h, o⟩ => ⟨h, o.below (Nat.le_refl _) (by simp)⟩

set_option maxRecDepth 100000 in
theorem lifted (os : Os) (started : os.Started) (H : Type) (enc : TypeId × Value → H) :
    ReturnsInHanded {} Tryd.checked os 8 .any (fun w args => (Rows.ctxTwiceSpec.pre enc Tryd.prog Tryd.f8 Rows.ctxTwiceRow.domain false w args ∧ laidMetH Tryd.prog Rows.ctxTwiceRow.laid w) ∧ sizedMet enc Tryd.prog Tryd.f8 (OpenSpec.ofChange Rows.ctxTwiceSpec) false w args)
      (Rows.ctxTwiceSpec.post enc Tryd.prog Tryd.f8 false true false false) := by
  refine returnsInHanded_shaped_and (C := Tryd.checked) (X := fun w _ => laidMetH Tryd.prog Rows.ctxTwiceRow.laid w) own started (by kernel_rfl) Tryd.func8
    (ChangeSpec.witness_shaped (enc := enc) (C := Tryd.checked) (os := os) (X := fun w _ => laidMetH Tryd.prog Rows.ctxTwiceRow.laid w) false (World.laidAll Tryd.prog os Rows.ctxTwiceRow.laid) #[.agg #[.int .u64 0, .int .u64 0, .int .u64 0, .int .u8 0], .int .u64 0, .int .u64 0, .int .u64 0, .int .u8 0] 40 (World.laidAll_os _ _ _)
      (World.shaped_of_ZipB (by kernel_rfl) (by kernel_rfl)) (by kernel_rfl) (by kernel_rfl) (by kernel_rfl)
      (by rw [MakeChecks.laidMetH_plain _ _ _ (by kernel_rfl)]; exact laidMet_laidAll _ (by kernel_rfl) (by kernel_rfl))) ?_
  intro W base args ds gs before hval0 hW hcnd hsh
  have hval : ∀ (j : Nat) t v, Tryd.f8.params[j]? = some t → args[j]? = some v → Value.okWide Tryd.prog W .any base t v := hval0
  have hW' := hW
  obtain ⟨p, q, hA0, hV, rfl, hfz, hnd⟩ := hW
  have hA : DataW.TrodAll enc Tryd.prog W 0 (fun _ => true) true Tryd.f8.params.toList args.toList ds p := hA0
  rw [Tryd.params8] at hA hval
  obtain ⟨v0, vs0, d0, ds0, p0, q0, hargs, rfl, rfl, h0, r0⟩ := trodAll_cons hA
  obtain ⟨v1, vs1, d1, ds1, p1, q1, rfl, rfl, rfl, h1, r1⟩ := trodAll_cons r0
  obtain ⟨v2, vs2, d2, ds2, p2, q2, rfl, rfl, rfl, h2, r2⟩ := trodAll_cons r1
  obtain ⟨v3, vs3, d3, ds3, p3, q3, rfl, rfl, rfl, h3, r3⟩ := trodAll_cons r2
  obtain ⟨v4, vs4, d4, ds4, p4, q4, rfl, rfl, rfl, h4, r4⟩ := trodAll_cons r3
  obtain ⟨rfl, rfl, rfl⟩ := trodAll_nil r4
  obtain rfl : args = #[v0, v1, v2, v3, v4] := by cases args; simp_all
  obtain ⟨rfl, rfl⟩ := trodVars_none hV
  obtain ⟨mx, hmx⟩ := cell_of_shapedOpen_int (P := Tryd.prog) (g := 0) (t := 3) (zero := #[.int .i64 0]) hsh (of_decide_eq_true (by kernel_rfl)) (by kernel_rfl) rfl (by kernel_rfl) (by kernel_rfl) Tryd.underlying3
  have k0 := h0
  have lt0 : ∀ x ∈ p0, x.block < W.heap.size := by obtain ⟨m, hm⟩ := k0; exact DataW.trod_lt m _ _ _ hm
  obtain ⟨c0_0, c0_1, c0_2, c0_3, y0_0, y0_1, y0_2, y0_3, m0, rfl, rfl, rfl, hy0_0, hy0_1, hy0_2, hy0_3⟩ := Joins.open_agg4 Tryd.underlying33 (by kernel_rfl) (by kernel_rfl) (hval 0 33 v0 rfl rfl) h0
  obtain ⟨a0_0, e0_0, _, w0_0⟩ := DataW.trod_int Tryd.underlying22 hy0_0
  obtain rfl : c0_0 = .int .u64 a0_0 := by simpa using e0_0
  obtain ⟨a0_1, e0_1, _, w0_1⟩ := DataW.trod_int Tryd.underlying22 hy0_1
  obtain rfl : c0_1 = .int .u64 a0_1 := by simpa using e0_1
  obtain ⟨a0_2, e0_2, _, w0_2⟩ := DataW.trod_int Tryd.underlying22 hy0_2
  obtain rfl : c0_2 = .int .u64 a0_2 := by simpa using e0_2
  obtain ⟨a0_3, e0_3, _, w0_3⟩ := DataW.trod_int Tryd.underlying5 hy0_3
  obtain rfl : c0_3 = .int .u8 a0_3 := by simpa using e0_3
  obtain ⟨a1, rfl, rfl, rfl, w1⟩ := open_int Tryd.underlying22 (hval 1 22 v1 rfl rfl) h1
  obtain ⟨a2, rfl, rfl, rfl, w2⟩ := open_int Tryd.underlying22 (hval 2 22 v2 rfl rfl) h2
  obtain ⟨a3, rfl, rfl, rfl, w3⟩ := open_int Tryd.underlying22 (hval 3 22 v3 rfl rfl) h3
  obtain ⟨a4, rfl, rfl, rfl, w4⟩ := open_int Tryd.underlying5 (hval 4 5 v4 rfl rfl) h4
  clear hA0 hval0
  refine (walk W a0_0 w0_0 a0_1 w0_1 a0_2 w0_2 a0_3 w0_3 a1 w1 a2 w2 a3 w3 a4 w4 mx hmx).mono fun e W' ⟨he, bel⟩ => ?_
  subst he
  exact ⟨_, rfl, _, _, _, [], _, [], hW', trodAll_mk1 (shut_bool Tryd.underlying4 _), (trodAll_cons_mk (Below.trod laidOut (by kernel_rfl) (of_decide_eq_true (by kernel_rfl)) k0 bel lt0) (trodAll_cons_mk (shut_int Tryd.underlying22 w1) (trodAll_cons_mk (shut_int Tryd.underlying22 w2) (trodAll_cons_mk (shut_int Tryd.underlying22 w3) (trodAll_cons_mk (shut_int Tryd.underlying5 w4) trodAll_mk0))))), rfl, bel.frame _, fun h => by cases h⟩

theorem over : Rows.ctxTwiceRow.holds Tryd.pinned (OpenSpec.ofChange Rows.ctxTwiceSpec) :=
  OpenClaim.holds_of_wide 8 Tryd.f8 rfl rfl rfl rfl rfl rfl rfl ⟨rfl, rfl, rfl, rfl, rfl⟩ rfl rfl rfl rfl rfl (by kernel_rfl) Tryd.func8 (by kernel_rfl)
    (of_decide_eq_true (by kernel_rfl)) (by unfold Func.isWrapper; first | (rw [if_pos (by decide +kernel)]; kernel_rfl) | (rw [if_neg (by decide +kernel)]; exact ⟨rfl, rfl⟩))
    (fun os started H enc _ => lifted os started H enc)

/-- The statement: the tied card. -/
theorem proved : Rows.CtxTwiceCardSaid :=
  Claim7.holds_tied_plain_at .later [] [.data, .pinned] true (true, "b43ba18150b12b623a9944652718dbf9b449f09b5181983626bac313c945c9d4") false over (fun _ h => by cases h) (by kernel_rfl) (fun _ h => by cases h) ctxTwice_row_tie rfl ⟨rfl, rfl⟩ (by kernel_rfl) rfl
    (fun f fn hf hfn => by
      obtain rfl : f = 8 := Option.some.inj ((show Tryd.prog.funcNamed "telemeter/telemeterlaw04.CtxTwice" = some 8 by kernel_rfl).symm.trans hf) |>.symm
      obtain rfl : fn = Tryd.f8 := (Option.some.inj (Tryd.func8.symm.trans hfn)).symm
      exact ⟨by kernel_rfl, fun j t ht => by
        rw [Tryd.params8] at ht
        have hm : t ∈ [33, 22, 22, 22, 5] := by simpa using Array.mem_of_getElem? ht
        have hall : ([33, 22, 22, 22, 5].all fun u => !Tryd.prog.wantsStandIn u) = true := by kernel_rfl
        exact (show Tryd.prog.wantsStandIn t = false by simpa using List.all_eq_true.1 hall t hm)⟩)
    (by kernel_rfl)
#print axioms proved
end Go.Proofs.YtfnbkcdcdeojfaaDoor.ctxTwice
