/- Package ctx, walked: Print. -/
import Derived.Test.YtfnbkcdcdeojfaaDoorCj
import Derived.Deep.RegionHeld3
set_option linter.unusedVariables false
set_option linter.unusedSimpArgs false
namespace Go.Proofs.YtfnbkcdcdeojfaaDoor
open Go.RowKit Go.Mk Go.Cx
attribute [-go_sem] Builtin.append_

def paArr (p : Pa) : Array Value := #[.int .u64 p.hi, .int .u64 p.lo, .int .u64 p.span, .int .u8 p.flags]
theorem or_nat {a b : Nat} (ha : a < big) (hb : b < big) : bits BinOp.or IntKind.u64 (a : Int) (b : Int) = ((a ||| b : Nat) : Int) :=
  (bits_nat .u64 64 (by decide) wraps_u64 a b ha hb).2
theorem or_eq_zero {a b : Nat} : a ||| b = 0 ↔ a = 0 ∧ b = 0 := by
  constructor
  · intro h
    constructor
    · apply Nat.eq_of_testBit_eq
      intro i
      have := congrArg (fun x => x.testBit i) h
      simp only [Nat.testBit_or, Nat.zero_testBit, Bool.or_eq_false_iff] at this
      rw [this.1, Nat.zero_testBit]
    · apply Nat.eq_of_testBit_eq
      intro i
      have := congrArg (fun x => x.testBit i) h
      simp only [Nat.testBit_or, Nat.zero_testBit, Bool.or_eq_false_iff] at this
      rw [this.2, Nat.zero_testBit]
  · rintro ⟨rfl, rfl⟩
    rfl

theorem join_lit (W : World) (xs : List ByteArray) (c : UInt8) (L : List UInt8) (hL : Lib.join (xs.map (·.data.toList)) [c] = L) (hl : L.length ≤ 1000000) (hx : xs.length ≤ 1000) :
    Calls Tryd.prog 24 #[.slice (some ⟨W.heap.size, 0, none⟩) xs.length xs.length, .string ⟨#[c]⟩] (W.alloc (.cells (xs.map Value.string).toArray 9)) fun e w' => e = .returned (.string ⟨L.toArray⟩) ∧ Only [] W w' := by
  have hb := heap_alloc_new W (.cells (xs.map Value.string).toArray 9)
  refine (Tryd.strings_Join W.heap.size 0 xs.length xs ⟨#[c]⟩ _ (fun j x hj => ?_) (lt_of_blk hb) (by omega) (Nat.le_refl _) ?_).mono ?_
  · rw [Nat.zero_add, cell_of_blk hb]
    simp [hj]
  · show (Lib.join _ [c]).length ≤ _
    rw [hL]; omega
  · rintro e w' ⟨rfl, hw⟩
    refine ⟨?_, ((Only.refl [] W).alloc _).trans (Only.ofBelow hw (Nat.le_refl _) _)⟩
    show Ending.returned (.string ⟨(Lib.join _ [c]).toArray⟩) = _
    rw [hL]
theorem join_four (A B S F : ByteArray) (a b s f : List UInt8) (hA : A = ⟨a.toArray⟩) (hB : B = ⟨b.toArray⟩) (hS : S = ⟨s.toArray⟩) (hF : F = ⟨f.toArray⟩) :
    Lib.join ([⟨#[48, 48]⟩, A ++ B, S, F].map (·.data.toList)) [45] = [48, 48] ++ [45] ++ a ++ b ++ [45] ++ s ++ [45] ++ f := by
  subst hA hB hS hF
  have e1 : (({ data := a.toArray } : ByteArray) ++ { data := b.toArray }).data.toList = a ++ b := by simp
  simp only [List.map_cons, List.map_nil, e1]
  simp [Lib.join]

set_option maxRecDepth 100000 in
set_option maxHeartbeats 8000000 in
theorem print_walk (p : Pa) (w : World) (hp : p.hi < big ∧ p.lo < big ∧ p.span < big ∧ p.flags < 256) :
    Calls Tryd.prog 13 #[.agg (paArr p)] w fun e w' => e = .returned (.tuple #[.string ⟨(printL p).1.toArray⟩, .int .u16 ((printL p).2 : Nat)]) ∧ Only [] w w' := by
  obtain ⟨hi, lo, sp, fl⟩ := p
  obtain ⟨h1, h2, h3, h4⟩ := hp
  simp only at h1 h2 h3 h4
  simp only [paArr]
  have hor := or_nat h1 h2
  by_cases hz : hi = 0 ∧ lo = 0
  · have hr : printL ⟨hi, lo, sp, fl⟩ = ([], 1) := by unfold printL; rw [if_pos (.inl hz)]
    obtain ⟨rfl, rfl⟩ := hz
    have Hr := Lib.hid hr
    clear hr
    simp only [Nat.or_self, Int.natCast_zero] at hor
    go_enter Tryd.func13, Tryd.ntmps13
    go_wp2_with fail
    go_ret2
    exact ⟨by rw [Hr.out]; rfl, (Only.refl _ _).alloc _⟩
  · have ho : (((hi ||| lo : Nat) : Int) == 0) = false := by
      rw [beq_eq_false_iff_ne]
      intro h
      exact hz (or_eq_zero.1 (by exact_mod_cast h))
    by_cases hs : sp = 0
    · have hr : printL ⟨hi, lo, sp, fl⟩ = ([], 1) := by unfold printL; rw [if_pos (.inr hs)]
      subst hs
      have Hr := Lib.hid hr
      clear hr hz
      go_enter Tryd.func13, Tryd.ntmps13
      go_wp2_with fail
      go_ret2
      exact ⟨by rw [Hr.out]; rfl, (Only.refl _ _).alloc _⟩
    · have hs2 : ((sp : Int) == 0) = false := by rw [beq_eq_false_iff_ne]; omega
      have hr : printL ⟨hi, lo, sp, fl⟩ = ([48, 48] ++ [45] ++ hexedL hi 16 ++ hexedL lo 16 ++ [45] ++ hexedL sp 16 ++ [45] ++ hexedL fl 2, 0) := by unfold printL; rw [if_neg (fun h => h.elim hz hs)]
      obtain ⟨A, hA⟩ : ∃ A : ByteArray, A = ⟨(hexedL hi 16).toArray⟩ := ⟨_, rfl⟩
      obtain ⟨B, hB⟩ : ∃ B : ByteArray, B = ⟨(hexedL lo 16).toArray⟩ := ⟨_, rfl⟩
      obtain ⟨S, hS⟩ : ∃ S : ByteArray, S = ⟨(hexedL sp 16).toArray⟩ := ⟨_, rfl⟩
      obtain ⟨F, hF⟩ : ∃ F : ByteArray, F = ⟨(hexedL fl 2).toArray⟩ := ⟨_, rfl⟩
      have C1 : Hid (∀ W, Calls Tryd.prog 27 #[.int .u64 hi, .int .i64 16] W fun e w' => e = .returned (.string A) ∧ Only [] W w') := Lib.hid (fun W => hA ▸ hexed_walk hi 16 W h1 (by omega))
      have C2 : Hid (∀ W, Calls Tryd.prog 27 #[.int .u64 lo, .int .i64 16] W fun e w' => e = .returned (.string B) ∧ Only [] W w') := Lib.hid (fun W => hB ▸ hexed_walk lo 16 W h2 (by omega))
      have C3 : Hid (∀ W, Calls Tryd.prog 27 #[.int .u64 sp, .int .i64 16] W fun e w' => e = .returned (.string S) ∧ Only [] W w') := Lib.hid (fun W => hS ▸ hexed_walk sp 16 W h3 (by omega))
      have C4 : Hid (∀ W, Calls Tryd.prog 27 #[.int .u64 fl, .int .i64 2] W fun e w' => e = .returned (.string F) ∧ Only [] W w') := Lib.hid (fun W => hF ▸ hexed_walk fl 2 W (by unfold big; omega) (by omega))
      have hwf : IntKind.u64.wrap (fl : Int) = fl := wraps_u64 _ (by omega) (by omega)
      have sA : A.size = 16 := by rw [hA]; exact hexedL_length hi 16
      have sB : B.size = 16 := by rw [hB]; exact hexedL_length lo 16
      have sS : S.size = 16 := by rw [hS]; exact hexedL_length sp 16
      have sF : F.size = 2 := by rw [hF]; exact hexedL_length fl 2
      have hj := join_four A B S F _ _ _ _ hA hB hS hF
      have hjl : ([48, 48] ++ [45] ++ hexedL hi 16 ++ hexedL lo 16 ++ [45] ++ hexedL sp 16 ++ [45] ++ hexedL fl 2).length ≤ 1000000 := by
        simp only [List.length_append, hexedL_length, List.length_cons, List.length_nil]; omega
      generalize [48, 48] ++ [45] ++ hexedL hi 16 ++ hexedL lo 16 ++ [45] ++ hexedL sp 16 ++ [45] ++ hexedL fl 2 = L at *
      have HJ := Lib.hid hj
      have HJl := Lib.hid hjl
      have Hr := Lib.hid hr
      obtain ⟨X, hX⟩ : ∃ X : ByteArray, X = ⟨L.toArray⟩ := ⟨_, rfl⟩
      have CJ : Hid (∀ W, Calls Tryd.prog 24 #[.slice (some ⟨W.heap.size, 0, none⟩) 4 4, .string ⟨#[45]⟩] (W.alloc (.cells #[.string ⟨#[48, 48]⟩, .string (A ++ B), .string S, .string F] 9)) fun e w' => e = .returned (.string X) ∧ Only [] W w') :=
        Lib.hid (fun W => hX ▸ join_lit W [⟨#[48, 48]⟩, A ++ B, S, F] 45 _ HJ.out HJl.out (by simp))
      have HX := Lib.hid hX
      clear hr hz hs hjl hj hX hA hB hS hF h1 h2 h3 h4
      have Hth : Hid (∀ W, Only [] (w.alloc (.cells #[.int .u64 hi, .int .u64 lo, .int .u64 sp, .int .u8 fl] 33)) W → W.cell? ⟨w.heap.size, 0, none⟩ = some (.int .u64 hi) ∧ W.cell? ⟨w.heap.size, 1, none⟩ = some (.int .u64 lo) ∧ W.cell? ⟨w.heap.size, 2, none⟩ = some (.int .u64 sp) ∧ W.cell? ⟨w.heap.size, 3, none⟩ = some (.int .u8 fl)) := Lib.hid (fun W o => by
        have hb := o.blk (heap_alloc_new w (.cells #[.int .u64 hi, .int .u64 lo, .int .u64 sp, .int .u8 fl] 33)) (by simp)
        refine ⟨?_, ?_, ?_, ?_⟩ <;> (rw [cell_of_blk hb]; rfl))
      go_enter Tryd.func13, Tryd.ntmps13
      go_wp2_with fail
      go_region_held3 (fun W => W.cell? ⟨w.heap.size, 0, none⟩ = some (.int .u64 hi) ∧ W.cell? ⟨w.heap.size, 1, none⟩ = some (.int .u64 lo) ∧ W.cell? ⟨w.heap.size, 2, none⟩ = some (.int .u64 sp) ∧ W.cell? ⟨w.heap.size, 3, none⟩ = some (.int .u8 fl)) ((refine Hth.out _ ?_; first | assumption | exact (Only.refl _ _).drew | (refine Only.alloc ?_ _; assumption)))
        ((first
        | (go_at_call_of 27 (Value.int IntKind.u64 ((hi : Nat) : Int)); refine (C1.out _).mono ?_; rintro e w2 ⟨rfl, o2⟩; have o3 := Only.trans (S := []) (a := (w.alloc (.cells #[.int .u64 hi, .int .u64 lo, .int .u64 sp, .int .u8 fl] 33))) (by first | assumption | exact (Only.refl _ _).drew) o2; clear o2)
        | (go_at_call_of 27 (Value.int IntKind.u64 ((lo : Nat) : Int)); refine (C2.out _).mono ?_; rintro e w2 ⟨rfl, o2⟩; have o3 := Only.trans (S := []) (a := (w.alloc (.cells #[.int .u64 hi, .int .u64 lo, .int .u64 sp, .int .u8 fl] 33))) (by first | assumption | exact (Only.refl _ _).drew) o2; clear o2)
        | (go_at_call_of 27 (Value.int IntKind.u64 ((sp : Nat) : Int)); refine (C3.out _).mono ?_; rintro e w2 ⟨rfl, o2⟩; have o3 := Only.trans (S := []) (a := (w.alloc (.cells #[.int .u64 hi, .int .u64 lo, .int .u64 sp, .int .u8 fl] 33))) (by first | assumption | exact (Only.refl _ _).drew) o2; clear o2)
        | (go_at_call_of 27 (Value.int IntKind.u64 ((fl : Nat) : Int)); refine (C4.out _).mono ?_; rintro e w2 ⟨rfl, o2⟩; have o3 := Only.trans (S := []) (a := (w.alloc (.cells #[.int .u64 hi, .int .u64 lo, .int .u64 sp, .int .u8 fl] 33))) (by first | assumption | exact (Only.refl _ _).drew) o2; clear o2)
        | (go_at_call 24; refine (CJ.out _).mono ?_; rintro e w2 ⟨rfl, o2⟩; have o3 := Only.trans (S := []) (a := (w.alloc (.cells #[.int .u64 hi, .int .u64 lo, .int .u64 sp, .int .u8 fl] 33))) (by assumption) o2; clear o2)))
      go_wp2_with fail
      go_ret2
      exact ⟨by rw [Hr.out, HX.out]; rfl, ((Only.refl _ _).alloc _).trans (by assumption)⟩

end Go.Proofs.YtfnbkcdcdeojfaaDoor
