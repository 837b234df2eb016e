/- The card of CtxWith: whatever the input, the call returns true and changes nothing that was there; what the row lists is tied to the program's text; no conditions. -/
import Derived.Test.YtfnbkcdcdeojfaaDoorRows
import Derived.Test.YtfnbkcdcdeojfaaDoorTie
import Derived.Test.YtfnbkcdcdeojfaaDoorCards
import Derived.Test.YtfnbkcdcdeojfaaDoorRk
import Derived.Test.YtfnbkcdcdeojfaaDoorCw
import Derived.WalkKit
import Derived.ProofKit
import Derived.OpenShut
import Derived.ShutString
import Derived.ChangeOld
import Derived.Below
import Derived.LaidMore
import Derived.Lay
import Derived.SevenTiedAt
import Derived.Stop.Joined
import Derived.Shelf.Vars
import Derived.Lib.SmallJoins
namespace Go.Proofs.YtfnbkcdcdeojfaaDoor.ctxWith
open Go.ChangeShapes Go.WideShapes Go.ChangeAt Go.RowKit Go.Cx
open Go.ChangeMaps (open_string shut_string)
set_option linter.unusedVariables false

theorem own : ownKnob Tryd.prog.godebug = none := by kernel_rfl
theorem laidOut : laidOutB Tryd.prog = true := by kernel_rfl

theorem walk (w : World) (a0 : ByteArray) (s0 : a0.size ≤ maxLen) (a1_0 : Bool) (a1_1 : Int) (w1_1 : (Lit.int .u64 a1_1).wf = true) (a1_2 : Bool) (a1_3 : Int) (w1_3 : (Lit.int .u64 a1_3).wf = true) (a2 : Option Addr) (len2 cap2 : Nat) (z2 : List Int) (w2 : InRow .u8 w a2 len2 cap2 z2) (a3 : Int) (w3 : (Lit.int .u8 a3).wf = true) (a4 : Int) (w4 : (Lit.int .u8 a4).wf = true) (a5 : Int) (w5 : (Lit.int .u64 a5).wf = true) (a6 : Int) (w6 : (Lit.int .u64 a6).wf = true) (m : Int) (hm : w.cell? ⟨0, 0, none⟩ = some (.int .i64 m)) :
    Calls Tryd.prog 6 #[.string a0, .agg #[.bool a1_0, .int .u64 a1_1, .bool a1_2, .int .u64 a1_3], .slice a2 len2 cap2, .int .u8 a3, .int .u8 a4, .int .u64 a5, .int .u64 a6] w fun e w' => e = .returned (.bool true) ∧ Below w.heap.size w w' := by
  obtain ⟨l1_1, h1_1⟩ := bounds_u64 w1_1
  obtain ⟨n1_1, rfl⟩ : ∃ n : Nat, a1_1 = n := ⟨a1_1.toNat, by omega⟩
  have h1_1 : n1_1 < big := by first | omega | (unfold big; omega)
  obtain ⟨l1_3, h1_3⟩ := bounds_u64 w1_3
  obtain ⟨n1_3, rfl⟩ : ∃ n : Nat, a1_3 = n := ⟨a1_3.toNat, by omega⟩
  have h1_3 : n1_3 < big := by first | omega | (unfold big; omega)
  have B2 := w2.bytes8
  obtain ⟨l3, h3⟩ := bounds_u8 w3
  obtain ⟨n3, rfl⟩ : ∃ n : Nat, a3 = n := ⟨a3.toNat, by omega⟩
  have h3 : n3 < 256 := by first | omega | (unfold big; omega)
  obtain ⟨l4, h4⟩ := bounds_u8 w4
  obtain ⟨n4, rfl⟩ : ∃ n : Nat, a4 = n := ⟨a4.toNat, by omega⟩
  have h4 : n4 < 256 := by first | omega | (unfold big; omega)
  obtain ⟨l5, h5⟩ := bounds_u64 w5
  obtain ⟨n5, rfl⟩ : ∃ n : Nat, a5 = n := ⟨a5.toNat, by omega⟩
  have h5 : n5 < big := by first | omega | (unfold big; omega)
  obtain ⟨l6, h6⟩ := bounds_u64 w6
  obtain ⟨n6, rfl⟩ : ∃ n : Nat, a6 = n := ⟨a6.toNat, by omega⟩
  have h6 : n6 < big := by first | omega | (unfold big; omega)
  exact (withlaw_walk a0 ⟨a1_0, n1_1, a1_2, n1_3⟩ a2 len2 cap2 n3 n4 n5 n6 m w s0 h1_1 h1_3 B2 h3 h4 h5 h6 hm).mono fun e w' ⟨h, o⟩ => ⟨h, o.below (Nat.le_refl _) (by simp)⟩

set_option maxRecDepth 100000 in
theorem lifted (os : Os) (started : os.Started) (H : Type) (enc : TypeId × Value → H) :
    ReturnsInHanded {} Tryd.checked os 6 .any (fun w args => (Rows.ctxWithSpec.pre enc Tryd.prog Tryd.f6 Rows.ctxWithRow.domain false w args ∧ laidMetH Tryd.prog Rows.ctxWithRow.laid w) ∧ sizedMet enc Tryd.prog Tryd.f6 (OpenSpec.ofChange Rows.ctxWithSpec) false w args)
      (Rows.ctxWithSpec.post enc Tryd.prog Tryd.f6 false true false false) := by
  refine returnsInHanded_shaped_and (C := Tryd.checked) (X := fun w _ => laidMetH Tryd.prog Rows.ctxWithRow.laid w) own started (by kernel_rfl) Tryd.func6
    (ChangeSpec.witness_shaped (enc := enc) (C := Tryd.checked) (os := os) (X := fun w _ => laidMetH Tryd.prog Rows.ctxWithRow.laid w) false (World.laidAll Tryd.prog os Rows.ctxWithRow.laid) #[.string ⟨#[]⟩, .agg #[.bool false, .int .u64 0, .bool false, .int .u64 0], .slice none 0 0, .int .u8 0, .int .u8 0, .int .u64 0, .int .u64 0] 40 (World.laidAll_os _ _ _)
      (World.shaped_of_ZipB (by kernel_rfl) (by kernel_rfl)) (by kernel_rfl) (by kernel_rfl) (by kernel_rfl)
      (by rw [MakeChecks.laidMetH_plain _ _ _ (by kernel_rfl)]; exact laidMet_laidAll _ (by kernel_rfl) (by kernel_rfl))) ?_
  intro W base args ds gs before hval0 hW hcnd hsh
  have hval : ∀ (j : Nat) t v, Tryd.f6.params[j]? = some t → args[j]? = some v → Value.okWide Tryd.prog W .any base t v := hval0
  have hW' := hW
  obtain ⟨p, q, hA0, hV, rfl, hfz, hnd⟩ := hW
  have hA : DataW.TrodAll enc Tryd.prog W 0 (fun _ => true) true Tryd.f6.params.toList args.toList ds p := hA0
  rw [Tryd.params6] at hA hval
  obtain ⟨v0, vs0, d0, ds0, p0, q0, hargs, rfl, rfl, h0, r0⟩ := trodAll_cons hA
  obtain ⟨v1, vs1, d1, ds1, p1, q1, rfl, rfl, rfl, h1, r1⟩ := trodAll_cons r0
  obtain ⟨v2, vs2, d2, ds2, p2, q2, rfl, rfl, rfl, h2, r2⟩ := trodAll_cons r1
  obtain ⟨v3, vs3, d3, ds3, p3, q3, rfl, rfl, rfl, h3, r3⟩ := trodAll_cons r2
  obtain ⟨v4, vs4, d4, ds4, p4, q4, rfl, rfl, rfl, h4, r4⟩ := trodAll_cons r3
  obtain ⟨v5, vs5, d5, ds5, p5, q5, rfl, rfl, rfl, h5, r5⟩ := trodAll_cons r4
  obtain ⟨v6, vs6, d6, ds6, p6, q6, rfl, rfl, rfl, h6, r6⟩ := trodAll_cons r5
  obtain ⟨rfl, rfl, rfl⟩ := trodAll_nil r6
  obtain rfl : args = #[v0, v1, v2, v3, v4, v5, v6] := by cases args; simp_all
  obtain ⟨rfl, rfl⟩ := trodVars_none hV
  obtain ⟨mx, hmx⟩ := cell_of_shapedOpen_int (P := Tryd.prog) (g := 0) (t := 3) (zero := #[.int .i64 0]) hsh (of_decide_eq_true (by kernel_rfl)) (by kernel_rfl) rfl (by kernel_rfl) (by kernel_rfl) Tryd.underlying3
  have k0 := h0
  have lt0 : ∀ x ∈ p0, x.block < W.heap.size := by obtain ⟨m, hm⟩ := k0; exact DataW.trod_lt m _ _ _ hm
  obtain ⟨a0, rfl, rfl, rfl, w0⟩ := open_string Tryd.underlying9 (hval 0 9 v0 rfl rfl) h0
  have k1 := h1
  have lt1 : ∀ x ∈ p1, x.block < W.heap.size := by obtain ⟨m, hm⟩ := k1; exact DataW.trod_lt m _ _ _ hm
  obtain ⟨c1_0, c1_1, c1_2, c1_3, y1_0, y1_1, y1_2, y1_3, m1, rfl, rfl, rfl, hy1_0, hy1_1, hy1_2, hy1_3⟩ := Joins.open_agg4 Tryd.underlying29 (by kernel_rfl) (by kernel_rfl) (hval 1 29 v1 rfl rfl) h1
  obtain ⟨a1_0, e1_0, _⟩ := DataW.trod_bool Tryd.underlying4 hy1_0
  obtain rfl : c1_0 = .bool a1_0 := by simpa using e1_0
  obtain ⟨a1_1, e1_1, _, w1_1⟩ := DataW.trod_int Tryd.underlying22 hy1_1
  obtain rfl : c1_1 = .int .u64 a1_1 := by simpa using e1_1
  obtain ⟨a1_2, e1_2, _⟩ := DataW.trod_bool Tryd.underlying4 hy1_2
  obtain rfl : c1_2 = .bool a1_2 := by simpa using e1_2
  obtain ⟨a1_3, e1_3, _, w1_3⟩ := DataW.trod_int Tryd.underlying22 hy1_3
  obtain rfl : c1_3 = .int .u64 a1_3 := by simpa using e1_3
  obtain ⟨a2, len2, cap2, rfl⟩ := okWide_slice Tryd.underlying23 (hval 2 23 v2 rfl rfl)
  have k2 := h2
  have lt2 : ∀ x ∈ p2, x.block < W.heap.size := by obtain ⟨m, hm⟩ := k2; exact DataW.trod_lt m _ _ _ hm
  obtain ⟨z2, w2⟩ : ∃ zs, InRow .u8 W a2 len2 cap2 zs := by
    obtain ⟨fuel, hf⟩ := h2
    rcases open_ints Tryd.underlying23 Tryd.underlying5 (by kernel_rfl) hf with ⟨hcs, _⟩ | ⟨x, l, c, zs, hcs, _, hl, hm, hz, _, hcell, hwz⟩
    · simp [Value.cells] at hcs
      obtain ⟨rfl, rfl, rfl⟩ := hcs
      exact ⟨[], .inl ⟨rfl, rfl, rfl, rfl⟩⟩
    · simp [Value.cells] at hcs
      obtain ⟨rfl, rfl, rfl⟩ := hcs
      exact ⟨zs, .inr ⟨_, rfl, hl, hm, by simpa using hz, hcell, hwz⟩⟩
  obtain ⟨a3, rfl, rfl, rfl, w3⟩ := open_int Tryd.underlying5 (hval 3 5 v3 rfl rfl) h3
  obtain ⟨a4, rfl, rfl, rfl, w4⟩ := open_int Tryd.underlying5 (hval 4 5 v4 rfl rfl) h4
  obtain ⟨a5, rfl, rfl, rfl, w5⟩ := open_int Tryd.underlying22 (hval 5 22 v5 rfl rfl) h5
  obtain ⟨a6, rfl, rfl, rfl, w6⟩ := open_int Tryd.underlying22 (hval 6 22 v6 rfl rfl) h6
  clear hA0 hval0
  refine (walk W a0 w0 a1_0 a1_1 w1_1 a1_2 a1_3 w1_3 a2 len2 cap2 z2 w2 a3 w3 a4 w4 a5 w5 a6 w6 mx hmx).mono fun e W' ⟨he, bel⟩ => ?_
  subst he
  exact ⟨_, rfl, _, _, _, [], _, [], hW', trodAll_mk1 (shut_bool Tryd.underlying4 _), (trodAll_cons_mk (Below.trod laidOut (by kernel_rfl) (of_decide_eq_true (by kernel_rfl)) k0 bel lt0) (trodAll_cons_mk (Below.trod laidOut (by kernel_rfl) (of_decide_eq_true (by kernel_rfl)) k1 bel lt1) (trodAll_cons_mk (Below.trod laidOut (by kernel_rfl) (of_decide_eq_true (by kernel_rfl)) k2 bel lt2) (trodAll_cons_mk (shut_int Tryd.underlying5 w3) (trodAll_cons_mk (shut_int Tryd.underlying5 w4) (trodAll_cons_mk (shut_int Tryd.underlying22 w5) (trodAll_cons_mk (shut_int Tryd.underlying22 w6) trodAll_mk0))))))), rfl, bel.frame _, fun h => by cases h⟩

theorem over : Rows.ctxWithRow.holds Tryd.pinned (OpenSpec.ofChange Rows.ctxWithSpec) :=
  OpenClaim.holds_of_wide 6 Tryd.f6 rfl rfl rfl rfl rfl rfl rfl ⟨rfl, rfl, rfl, rfl, rfl⟩ rfl rfl rfl rfl rfl (by kernel_rfl) Tryd.func6 (by kernel_rfl)
    (of_decide_eq_true (by kernel_rfl)) (by unfold Func.isWrapper; first | (rw [if_pos (by decide +kernel)]; kernel_rfl) | (rw [if_neg (by decide +kernel)]; exact ⟨rfl, rfl⟩))
    (fun os started H enc _ => lifted os started H enc)

/-- The statement: the tied card. -/
theorem proved : Rows.CtxWithCardSaid :=
  Claim7.holds_tied_plain_at .later [] [.data, .pinned] true (true, "b43ba18150b12b623a9944652718dbf9b449f09b5181983626bac313c945c9d4") false over (fun _ h => by cases h) (by kernel_rfl) (fun _ h => by cases h) ctxWith_row_tie rfl ⟨rfl, rfl⟩ (by kernel_rfl) rfl
    (fun f fn hf hfn => by
      obtain rfl : f = 6 := Option.some.inj ((show Tryd.prog.funcNamed "telemeter/telemeterlaw04.CtxWith" = some 6 by kernel_rfl).symm.trans hf) |>.symm
      obtain rfl : fn = Tryd.f6 := (Option.some.inj (Tryd.func6.symm.trans hfn)).symm
      exact ⟨by kernel_rfl, fun j t ht => by
        rw [Tryd.params6] at ht
        have hm : t ∈ [9, 29, 23, 5, 5, 22, 22] := by simpa using Array.mem_of_getElem? ht
        have hall : ([9, 29, 23, 5, 5, 22, 22].all fun u => !Tryd.prog.wantsStandIn u) = true := by kernel_rfl
        exact (show Tryd.prog.wantsStandIn t = false by simpa using List.all_eq_true.1 hall t hm)⟩)
    (by kernel_rfl)
#print axioms proved
end Go.Proofs.YtfnbkcdcdeojfaaDoor.ctxWith
