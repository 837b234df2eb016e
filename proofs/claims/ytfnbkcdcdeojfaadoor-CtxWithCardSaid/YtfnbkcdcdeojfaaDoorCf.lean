/- Package ctx, walked: thresholds, drawn numbers, marks. -/
import Derived.Test.YtfnbkcdcdeojfaaDoorCe
set_option linter.unusedVariables false
set_option linter.unusedSimpArgs false
namespace Go.Proofs.YtfnbkcdcdeojfaaDoor
open Go.RowKit Go.Mk Go.Cx
attribute [-go_sem] Builtin.append_

def thrV (l : List UInt8) : Nat := (thr l).getD 0
def thrOk (l : List UInt8) : Bool := (thr l).isSome
def drawnOk (l : List UInt8) : Bool := hexOk l && decide (l.length = 14)

theorem shl_step {n k : Nat} (hk : k ≤ 14) (hn : n < 16 ^ k) : IntKind.u64.wrap ((n : Int) * 2 ^ (4 * (14 - k))) = ((n * 16 ^ (14 - k) : Nat) : Int) := by
  have h1 : ((n : Int) * 2 ^ (4 * (14 - k))) = ((n * 16 ^ (14 - k) : Nat) : Int) := by
    rw [Nat.pow_mul 2 4 (14 - k) |> fun h => (by exact_mod_cast congrArg (fun x : Nat => (x : Int)) h : ((2 : Int) ^ (4 * (14 - k))) = (((2 ^ 4) ^ (14 - k) : Nat) : Int))]
    rw [Int.natCast_mul]
  rw [h1]
  have h2 : n * 16 ^ (14 - k) < 16 ^ 14 := by
    have h3 : n * 16 ^ (14 - k) < 16 ^ k * 16 ^ (14 - k) := Nat.mul_lt_mul_of_pos_right hn (Nat.pow_pos (by omega))
    rwa [← Nat.pow_add, show k + (14 - k) = 14 by omega] at h3
  have h4 : (16 : Nat) ^ 14 ≤ 18446744073709551615 := by decide
  exact IntWalk.u64_in _ ⟨by omega, by omega⟩

set_option maxRecDepth 100000 in
set_option maxHeartbeats 1000000 in
theorem drawn_walk (s : ByteArray) (w : World) (hs : s.size ≤ 100000) :
    Calls Tryd.prog 48 #[.string s] w fun e w' => e = .returned (.tuple #[.int .u64 (hexV s.data.toList), .bool (drawnOk s.data.toList)]) ∧ w' = w := by
  have C := Lib.hid (hex_walk s w (by omega))
  obtain ⟨n, hn⟩ : ∃ n, n = hexV s.data.toList := ⟨_, rfl⟩
  obtain ⟨b, hb⟩ : ∃ b, b = hexOk s.data.toList := ⟨_, rfl⟩
  have e1 : drawnOk s.data.toList = (b && ((s.size : Int) == 14)) := by
    unfold drawnOk
    rw [hb, len_data]
    congr 1
    rw [Bool.eq_iff_iff, decide_eq_true_eq, beq_iff_eq]
    omega
  rw [← hn, ← hb] at C
  have E1 := Lib.hid e1
  have Hn := Lib.hid hn
  clear hn hb e1
  cases b with
  | true =>
    go_enter Tryd.func48, Tryd.ntmps48
    go_wp2_with (go_at_call 26; refine C.out.mono ?_; rintro e w' ⟨rfl, rfl⟩)
    go_ret2
    exact ⟨by rw [E1.out, ← Hn.out]; simp, rfl⟩
  | false =>
    go_enter Tryd.func48, Tryd.ntmps48
    go_wp2_with (go_at_call 26; refine C.out.mono ?_; rintro e w' ⟨rfl, rfl⟩)
    go_ret2
    exact ⟨by rw [E1.out, ← Hn.out]; simp, rfl⟩

set_option maxRecDepth 100000 in
set_option maxHeartbeats 1000000 in
theorem thr_walk (s : ByteArray) (w : World) (hs : s.size ≤ 100000) :
    Calls Tryd.prog 47 #[.string s] w fun e w' => e = .returned (.tuple #[.int .u64 (thrV s.data.toList), .bool (thrOk s.data.toList)]) ∧ w' = w := by
  have C := Lib.hid (hex_walk s w (by omega))
  obtain ⟨n, hn⟩ : ∃ n, n = hexV s.data.toList := ⟨_, rfl⟩
  obtain ⟨b, hb⟩ : ∃ b, b = hexOk s.data.toList := ⟨_, rfl⟩
  have hsm : s.size ≤ 14 → n < 16 ^ s.size := fun h => by rw [hn, ← len_data]; exact hexV_small (by rw [len_data]; omega)
  rw [← hn, ← hb] at C
  by_cases hk : 1 ≤ s.size ∧ s.size ≤ 14 ∧ b = true
  · obtain ⟨h1, h2, rfl⟩ := hk
    have hb2 : s.toList.isEmpty = false := by
      rw [Lib.toList_data]
      have := len_data s
      cases hq : s.data.toList with
      | nil => rw [hq] at this; simp at this; omega
      | cons => rfl
    have hI : (s.size : Int) ≤ 14 := by omega
    have hI2 : (1 : Int) ≤ s.size := by omega
    have e1 : thr s.data.toList = some (n * 16 ^ (14 - s.size)) := by
      unfold thr
      rw [len_data, if_pos ⟨h1, h2⟩]
      unfold hexOk at hb
      unfold hexV at hn
      cases hq : hexL s.data.toList with
      | none => rw [hq] at hb; cases hb
      | some v => rw [hq] at hn; rw [hn]; rfl
    have E1 := Lib.hid e1
    have HS := Lib.hid (shl_step h2 (hsm h2))
    clear e1 hb hn hsm
    go_enter Tryd.func47, Tryd.ntmps47
    go_wp2_with (go_at_call 26; refine C.out.mono ?_; rintro e w' ⟨rfl, rfl⟩)
    go_ret2
    refine ⟨?_, rfl⟩
    unfold thrV thrOk
    rw [E1.out]
    show Ending.returned (Value.tuple #[Value.int IntKind.u64 (IntKind.u64.wrap (↑n * 2 ^ (4 * (14 - s.size)))), Value.bool true]) = _
    rw [HS.out]
    rfl
  · have e1 : thr s.data.toList = none := by
      unfold thr
      rw [len_data]
      by_cases h1 : 1 ≤ s.size ∧ s.size ≤ 14
      · rw [if_pos h1]
        have hbf : b = false := by
          cases b with
          | false => rfl
          | true => exact absurd ⟨h1.1, h1.2, rfl⟩ hk
        subst hbf
        unfold hexOk at hb
        cases hq : hexL s.data.toList with
        | none => rfl
        | some v => rw [hq] at hb; cases hb
      · rw [if_neg h1]
    have hv : thrV s.data.toList = 0 := by unfold thrV; rw [e1]; rfl
    have ho : thrOk s.data.toList = false := by unfold thrOk; rw [e1]; rfl
    have Hv := Lib.hid hv
    have Ho := Lib.hid ho
    have hdis : b = false ∨ (b = true ∧ s.size = 0) ∨ (b = true ∧ 1 ≤ s.size ∧ 14 < s.size) := by
      cases b with
      | false => exact .inl rfl
      | true =>
        by_cases h0 : s.size = 0
        · exact .inr (.inl ⟨rfl, h0⟩)
        · refine .inr (.inr ⟨rfl, by omega, ?_⟩)
          by_cases h1 : s.size ≤ 14
          · exact absurd ⟨by omega, h1, rfl⟩ hk
          · omega
    clear e1 hb hn hsm hv ho hk
    rcases hdis with rfl | ⟨rfl, h0⟩ | ⟨rfl, h1, h2⟩
    · go_enter Tryd.func47, Tryd.ntmps47
      go_wp2_with (go_at_call 26; refine C.out.mono ?_; rintro e w' ⟨rfl, rfl⟩)
      go_ret2
      exact ⟨by rw [Hv.out, Ho.out]; rfl, rfl⟩
    · have hd : s.data.toList = [] := List.eq_nil_of_length_eq_zero (by rw [len_data]; exact h0)
      have hb2 : s.toList.isEmpty = true := by rw [Lib.toList_data, hd]; rfl
      clear hd h0
      go_enter Tryd.func47, Tryd.ntmps47
      go_wp2_with (go_at_call 26; refine C.out.mono ?_; rintro e w' ⟨rfl, rfl⟩)
      go_ret2
      exact ⟨by rw [Hv.out, Ho.out]; rfl, rfl⟩
    · have hb2 : s.toList.isEmpty = false := by
        rw [Lib.toList_data]
        have := len_data s
        cases hq : s.data.toList with
        | nil => rw [hq] at this; simp at this; omega
        | cons => rfl
      have hI : (14 : Int) < s.size := by omega
      have hd : decide ((14 : Int) < s.size) = true := decide_eq_true hI
      go_enter Tryd.func47, Tryd.ntmps47
      go_wp2_with (go_at_call 26; refine C.out.mono ?_; rintro e w' ⟨rfl, rfl⟩)
      go_ret2
      exact ⟨by rw [Hv.out, Ho.out]; rfl, rfl⟩

theorem cut_walk (s : ByteArray) (c : UInt8) (m : Int) (w : World) (hs : s.size ≤ 100000) (hm : w.cell? ⟨0, 0, none⟩ = some (.int .i64 m)) :
    Calls Tryd.prog 35 #[.string s, .string ⟨#[c]⟩] w fun e w' => ∃ a b : ByteArray, e = .returned (.tuple #[.string a, .string b, .bool (cutC c s.data.toList).2.2]) ∧
      a.data.toList = (cutC c s.data.toList).1 ∧ b.data.toList = (cutC c s.data.toList).2.1 ∧ a.size ≤ s.size ∧ b.size ≤ s.size ∧ ∃ n, w' = w.drewN n := by
  refine (Tryd.strings_Cut s ⟨#[c]⟩ m w (by omega) hm).mono ?_
  rintro e w' ⟨rfl, n, rfl⟩
  have h1 : Lib.cut s.data.toList (⟨#[c]⟩ : ByteArray).data.toList = cutC c s.data.toList := cut_C c _
  rw [h1]
  have h2 := cutC_len c s.data.toList
  rw [len_data] at h2
  exact ⟨_, _, rfl, rfl, rfl, h2.1, h2.2, n, rfl⟩

theorem marksA_snoc : ∀ (L : List (List UInt8)) (m : Mk) (p : List UInt8), marksA m (L ++ [p]) = (marksA m L).bind fun m' => markOne m' p
  | [], m, p => by
    show (markOne m p).bind (fun m' => marksA m' []) = markOne m p
    cases markOne m p <;> rfl
  | q :: L, m, p => by
    rw [List.cons_append, marksA, marksA]
    cases markOne m q with
    | none => rfl
    | some m' => exact marksA_snoc L m' p

end Go.Proofs.YtfnbkcdcdeojfaaDoor
