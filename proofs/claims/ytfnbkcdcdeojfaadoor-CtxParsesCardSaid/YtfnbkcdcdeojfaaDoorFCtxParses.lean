/- The card of CtxParses: whatever the input, the call returns true and changes nothing that was there; what the row lists is tied to the program's text; no conditions. -/
import Derived.Test.YtfnbkcdcdeojfaaDoorRows
import Derived.Test.YtfnbkcdcdeojfaaDoorTie
import Derived.Test.YtfnbkcdcdeojfaaDoorCards
import Derived.Test.YtfnbkcdcdeojfaaDoorRc
import Derived.Test.YtfnbkcdcdeojfaaDoorCw
import Derived.WalkKit
import Derived.ProofKit
import Derived.OpenShut
import Derived.ShutString
import Derived.ChangeOld
import Derived.Below
import Derived.LaidMore
import Derived.Lay
import Derived.SevenTiedAt
import Derived.Stop.Joined
import Derived.Shelf.Vars
import Derived.Lib.SmallJoins
namespace Go.Proofs.YtfnbkcdcdeojfaaDoor.ctxParses
open Go.ChangeShapes Go.WideShapes Go.ChangeAt Go.RowKit Go.Cx
open Go.ChangeMaps (open_string shut_string)
set_option linter.unusedVariables false

theorem own : ownKnob Tryd.prog.godebug = none := by kernel_rfl
theorem laidOut : laidOutB Tryd.prog = true := by kernel_rfl

theorem walk (w : World) (a0 : ByteArray) (s0 : a0.size ≤ maxLen) (a1_0 : Int) (w1_0 : (Lit.int .u64 a1_0).wf = true) (a1_1 : Int) (w1_1 : (Lit.int .u64 a1_1).wf = true) (a1_2 : Int) (w1_2 : (Lit.int .u64 a1_2).wf = true) (a1_3 : Int) (w1_3 : (Lit.int .u8 a1_3).wf = true) (a2 : Int) (w2 : (Lit.int .u8 a2).wf = true) (a3 : Int) (w3 : (Lit.int .u8 a3).wf = true) (m : Int) (hm : w.cell? ⟨0, 0, none⟩ = some (.int .i64 m)) :
    Calls Tryd.prog 5 #[.string a0, .agg #[.int .u64 a1_0, .int .u64 a1_1, .int .u64 a1_2, .int .u8 a1_3], .int .u8 a2, .int .u8 a3] w fun e w' => e = .returned (.bool true) ∧ Below w.heap.size w w' := by
  obtain ⟨l1_0, h1_0⟩ := bounds_u64 w1_0
  obtain ⟨n1_0, rfl⟩ : ∃ n : Nat, a1_0 = n := ⟨a1_0.toNat, by omega⟩
  have h1_0 : n1_0 < big := by first | omega | (unfold big; omega)
  obtain ⟨l1_1, h1_1⟩ := bounds_u64 w1_1
  obtain ⟨n1_1, rfl⟩ : ∃ n : Nat, a1_1 = n := ⟨a1_1.toNat, by omega⟩
  have h1_1 : n1_1 < big := by first | omega | (unfold big; omega)
  obtain ⟨l1_2, h1_2⟩ := bounds_u64 w1_2
  obtain ⟨n1_2, rfl⟩ : ∃ n : Nat, a1_2 = n := ⟨a1_2.toNat, by omega⟩
  have h1_2 : n1_2 < big := by first | omega | (unfold big; omega)
  obtain ⟨l1_3, h1_3⟩ := bounds_u8 w1_3
  obtain ⟨n1_3, rfl⟩ : ∃ n : Nat, a1_3 = n := ⟨a1_3.toNat, by omega⟩
  have h1_3 : n1_3 < 256 := by first | omega | (unfold big; omega)
  obtain ⟨l2, h2⟩ := bounds_u8 w2
  obtain ⟨n2, rfl⟩ : ∃ n : Nat, a2 = n := ⟨a2.toNat, by omega⟩
  have h2 : n2 < 256 := by first | omega | (unfold big; omega)
  obtain ⟨l3, h3⟩ := bounds_u8 w3
  obtain ⟨n3, rfl⟩ : ∃ n : Nat, a3 = n := ⟨a3.toNat, by omega⟩
  have h3 : n3 < 256 := by first | omega | (unfold big; omega)
  exact (parses_walk a0 ⟨n1_0, n1_1, n1_2, n1_3⟩ n2 n3 m w s0 ⟨h1_0, h1_1, h1_2, h1_3⟩ h2 h3 hm).mono fun e w' ⟨h, o⟩ => ⟨h, o.below (Nat.le_refl _) (by simp)⟩

set_option maxRecDepth 100000 in
theorem lifted (os : Os) (started : os.Started) (H : Type) (enc : TypeId × Value → H) :
    ReturnsInHanded {} Tryd.checked os 5 .any (fun w args => (Rows.ctxParsesSpec.pre enc Tryd.prog Tryd.f5 Rows.ctxParsesRow.domain false w args ∧ laidMetH Tryd.prog Rows.ctxParsesRow.laid w) ∧ sizedMet enc Tryd.prog Tryd.f5 (OpenSpec.ofChange Rows.ctxParsesSpec) false w args)
      (Rows.ctxParsesSpec.post enc Tryd.prog Tryd.f5 false true false false) := by
  refine returnsInHanded_shaped_and (C := Tryd.checked) (X := fun w _ => laidMetH Tryd.prog Rows.ctxParsesRow.laid w) own started (by kernel_rfl) Tryd.func5
    (ChangeSpec.witness_shaped (enc := enc) (C := Tryd.checked) (os := os) (X := fun w _ => laidMetH Tryd.prog Rows.ctxParsesRow.laid w) false (World.laidAll Tryd.prog os Rows.ctxParsesRow.laid) #[.string ⟨#[]⟩, .agg #[.int .u64 0, .int .u64 0, .int .u64 0, .int .u8 0], .int .u8 0, .int .u8 0] 40 (World.laidAll_os _ _ _)
      (World.shaped_of_ZipB (by kernel_rfl) (by kernel_rfl)) (by kernel_rfl) (by kernel_rfl) (by kernel_rfl)
      (by rw [MakeChecks.laidMetH_plain _ _ _ (by kernel_rfl)]; exact laidMet_laidAll _ (by kernel_rfl) (by kernel_rfl))) ?_
  intro W base args ds gs before hval0 hW hcnd hsh
  have hval : ∀ (j : Nat) t v, Tryd.f5.params[j]? = some t → args[j]? = some v → Value.okWide Tryd.prog W .any base t v := hval0
  have hW' := hW
  obtain ⟨p, q, hA0, hV, rfl, hfz, hnd⟩ := hW
  have hA : DataW.TrodAll enc Tryd.prog W 0 (fun _ => true) true Tryd.f5.params.toList args.toList ds p := hA0
  rw [Tryd.params5] at hA hval
  obtain ⟨v0, vs0, d0, ds0, p0, q0, hargs, rfl, rfl, h0, r0⟩ := trodAll_cons hA
  obtain ⟨v1, vs1, d1, ds1, p1, q1, rfl, rfl, rfl, h1, r1⟩ := trodAll_cons r0
  obtain ⟨v2, vs2, d2, ds2, p2, q2, rfl, rfl, rfl, h2, r2⟩ := trodAll_cons r1
  obtain ⟨v3, vs3, d3, ds3, p3, q3, rfl, rfl, rfl, h3, r3⟩ := trodAll_cons r2
  obtain ⟨rfl, rfl, rfl⟩ := trodAll_nil r3
  obtain rfl : args = #[v0, v1, v2, v3] := by cases args; simp_all
  obtain ⟨rfl, rfl⟩ := trodVars_none hV
  obtain ⟨mx, hmx⟩ := cell_of_shapedOpen_int (P := Tryd.prog) (g := 0) (t := 3) (zero := #[.int .i64 0]) hsh (of_decide_eq_true (by kernel_rfl)) (by kernel_rfl) rfl (by kernel_rfl) (by kernel_rfl) Tryd.underlying3
  have k0 := h0
  have lt0 : ∀ x ∈ p0, x.block < W.heap.size := by obtain ⟨m, hm⟩ := k0; exact DataW.trod_lt m _ _ _ hm
  obtain ⟨a0, rfl, rfl, rfl, w0⟩ := open_string Tryd.underlying9 (hval 0 9 v0 rfl rfl) h0
  have k1 := h1
  have lt1 : ∀ x ∈ p1, x.block < W.heap.size := by obtain ⟨m, hm⟩ := k1; exact DataW.trod_lt m _ _ _ hm
  obtain ⟨c1_0, c1_1, c1_2, c1_3, y1_0, y1_1, y1_2, y1_3, m1, rfl, rfl, rfl, hy1_0, hy1_1, hy1_2, hy1_3⟩ := Joins.open_agg4 Tryd.underlying33 (by kernel_rfl) (by kernel_rfl) (hval 1 33 v1 rfl rfl) h1
  obtain ⟨a1_0, e1_0, _, w1_0⟩ := DataW.trod_int Tryd.underlying22 hy1_0
  obtain rfl : c1_0 = .int .u64 a1_0 := by simpa using e1_0
  obtain ⟨a1_1, e1_1, _, w1_1⟩ := DataW.trod_int Tryd.underlying22 hy1_1
  obtain rfl : c1_1 = .int .u64 a1_1 := by simpa using e1_1
  obtain ⟨a1_2, e1_2, _, w1_2⟩ := DataW.trod_int Tryd.underlying22 hy1_2
  obtain rfl : c1_2 = .int .u64 a1_2 := by simpa using e1_2
  obtain ⟨a1_3, e1_3, _, w1_3⟩ := DataW.trod_int Tryd.underlying5 hy1_3
  obtain rfl : c1_3 = .int .u8 a1_3 := by simpa using e1_3
  obtain ⟨a2, rfl, rfl, rfl, w2⟩ := open_int Tryd.underlying5 (hval 2 5 v2 rfl rfl) h2
  obtain ⟨a3, rfl, rfl, rfl, w3⟩ := open_int Tryd.underlying5 (hval 3 5 v3 rfl rfl) h3
  clear hA0 hval0
  refine (walk W a0 w0 a1_0 w1_0 a1_1 w1_1 a1_2 w1_2 a1_3 w1_3 a2 w2 a3 w3 mx hmx).mono fun e W' ⟨he, bel⟩ => ?_
  subst he
  exact ⟨_, rfl, _, _, _, [], _, [], hW', trodAll_mk1 (shut_bool Tryd.underlying4 _), (trodAll_cons_mk (Below.trod laidOut (by kernel_rfl) (of_decide_eq_true (by kernel_rfl)) k0 bel lt0) (trodAll_cons_mk (Below.trod laidOut (by kernel_rfl) (of_decide_eq_true (by kernel_rfl)) k1 bel lt1) (trodAll_cons_mk (shut_int Tryd.underlying5 w2) (trodAll_cons_mk (shut_int Tryd.underlying5 w3) trodAll_mk0)))), rfl, bel.frame _, fun h => by cases h⟩

theorem over : Rows.ctxParsesRow.holds Tryd.pinned (OpenSpec.ofChange Rows.ctxParsesSpec) :=
  OpenClaim.holds_of_wide 5 Tryd.f5 rfl rfl rfl rfl rfl rfl rfl ⟨rfl, rfl, rfl, rfl, rfl⟩ rfl rfl rfl rfl rfl (by kernel_rfl) Tryd.func5 (by kernel_rfl)
    (of_decide_eq_true (by kernel_rfl)) (by unfold Func.isWrapper; first | (rw [if_pos (by decide +kernel)]; kernel_rfl) | (rw [if_neg (by decide +kernel)]; exact ⟨rfl, rfl⟩))
    (fun os started H enc _ => lifted os started H enc)

/-- The statement: the tied card. -/
theorem proved : Rows.CtxParsesCardSaid :=
  Claim7.holds_tied_plain_at .later [] [.data, .pinned] true (true, "b43ba18150b12b623a9944652718dbf9b449f09b5181983626bac313c945c9d4") false over (fun _ h => by cases h) (by kernel_rfl) (fun _ h => by cases h) ctxParses_row_tie rfl ⟨rfl, rfl⟩ (by kernel_rfl) rfl
    (fun f fn hf hfn => by
      obtain rfl : f = 5 := Option.some.inj ((show Tryd.prog.funcNamed "telemeter/telemeterlaw04.CtxParses" = some 5 by kernel_rfl).symm.trans hf) |>.symm
      obtain rfl : fn = Tryd.f5 := (Option.some.inj (Tryd.func5.symm.trans hfn)).symm
      exact ⟨by kernel_rfl, fun j t ht => by
        rw [Tryd.params5] at ht
        have hm : t ∈ [9, 33, 5, 5] := by simpa using Array.mem_of_getElem? ht
        have hall : ([9, 33, 5, 5].all fun u => !Tryd.prog.wantsStandIn u) = true := by kernel_rfl
        exact (show Tryd.prog.wantsStandIn t = false by simpa using List.all_eq_true.1 hall t hm)⟩)
    (by kernel_rfl)
#print axioms proved
end Go.Proofs.YtfnbkcdcdeojfaaDoor.ctxParses
