/- The document's answer for layer 4, walked: digit, hex, digits, Print, place. -/
import Derived.Test.YtfnbkcdcdeojfaaDoorCt
set_option linter.unusedVariables false
set_option linter.unusedSimpArgs false
namespace Go.Proofs.YtfnbkcdcdeojfaaDoor
open Go.RowKit Go.Mk Go.Cx
attribute [-go_sem] Builtin.append_

def digB : ByteArray := ⟨#[48, 49, 50, 51, 52, 53, 54, 55, 56, 57, 97, 98, 99, 100, 101, 102]⟩
set_option maxRecDepth 100000 in
theorem ix_dig (i : Nat) (hi : i < 16) : ∀ w : World, (Instr.index 9 (.string ⟨#[48, 49, 50, 51, 52, 53, 54, 55, 56, 57, 97, 98, 99, 100, 101, 102]⟩) (.int .i64 (i : Int))).run Tryd.prog w = .ok (.int .u8 ((dig i).toNat : Int)) w := by
  have hc : i = 0 ∨ i = 1 ∨ i = 2 ∨ i = 3 ∨ i = 4 ∨ i = 5 ∨ i = 6 ∨ i = 7 ∨ i = 8 ∨ i = 9 ∨ i = 10 ∨ i = 11 ∨ i = 12 ∨ i = 13 ∨ i = 14 ∨ i = 15 := by omega
  rcases hc with rfl | rfl | rfl | rfl | rfl | rfl | rfl | rfl | rfl | rfl | rfl | rfl | rfl | rfl | rfl | rfl
  all_goals exact fun _ => by kernel_rfl
theorem dig_of : ∀ c : UInt8, ∀ d : Fin 16, digN c = some d.1 → dig d.1 = c := byte_all (P := fun c => ∀ d : Fin 16, digN c = some d.1 → dig d.1 = c) (by decide +kernel)
theorem digI_at {c : UInt8} {i : Nat} (hi : i < 16) (h : dig i = c) : digI c = i := by
  subst h
  unfold digI
  rw [digN_dig hi]
theorem digI_no {c : UInt8} (h : ∀ j, j < 16 → dig j ≠ c) : digI c = -1 := by
  unfold digI
  cases hd : digN c with
  | none => rfl
  | some d => exact absurd (dig_of c ⟨d, digN_lt hd⟩ hd) (h d (digN_lt hd))
theorem byte_ne {a b : UInt8} (h : a ≠ b) : ((a.toNat : Int) == (b.toNat : Int)) = false := by
  rw [beq_eq_false_iff_ne]
  intro e
  exact h (UInt8.toNat_inj.1 (by omega))

set_option maxRecDepth 100000 in
set_option maxHeartbeats 1000000 in
theorem rdigit_walk (c : UInt8) (w : World) :
    Calls Tryd.prog 60 #[.int .u8 c.toNat] w fun e w' => e = .returned (.int .i64 (digI c)) ∧ w' = w := by
  go_enter Tryd.func60, Tryd.ntmps60
  go_wp2_with fail
  go_loop [3] (fun iv => ∃ i : Nat, iv = .int .i64 i ∧ i ≤ 16 ∧ ∀ j, j < i → dig j ≠ c) (fun iv => 16 - (intOf iv).toNat)
  case atStart => exact ⟨0, rfl, by omega, fun j hj => absurd hj (by omega)⟩
  case round =>
    obtain ⟨i, rfl, hi, hx⟩ := hrel
    have Hx := Lib.hid hx
    clear hx
    by_cases hil : i < 16
    · have h0 : decide ((i : Int) < 16) = true := decide_eq_true (by omega)
      have ix := ix_dig i hil
      by_cases hd : dig i = c
      · have e1 : (((dig i).toNat : Int) == (c.toNat : Int)) = true := by rw [hd]; simp
        have E := Lib.hid (digI_at hil hd)
        clear hd
        go_wp2_with fail
        go_ret
        exact ⟨by rw [E.out]; try rfl, rfl⟩
      · have e1 := byte_ne hd
        have Hd := Lib.hid hd
        clear hd
        go_wp2_with fail
        go_round
        case rel => exact ⟨i + 1, by go_num, by omega, fun j hj => if h : j = i then h ▸ Hd.out else Hx.out j (by omega)⟩
        case measure => simp [intOf]; omega
    · have h0 : decide ((i : Int) < 16) = false := decide_eq_false (by omega)
      have E := Lib.hid (digI_no (fun j hj => Hx.out j (by omega)))
      go_wp2_with fail
      go_ret
      exact ⟨by rw [E.out]; try rfl, rfl⟩

theorem digI_facts (c : UInt8) : (digN c = none ∧ digI c = -1) ∨ ∃ d, digN c = some d ∧ d < 16 ∧ digI c = d := by
  unfold digI
  cases h : digN c with
  | none => exact .inl ⟨rfl, rfl⟩
  | some d => exact .inr ⟨d, rfl, digN_lt h, rfl⟩
theorem mul_step {n d : Nat} (hn : n < big) (hd : d < 16) : IntKind.u64.wrap (IntKind.u64.wrap (16 * (n : Int)) + (d : Int)) = (((16 * n + d) % big : Nat) : Int) := by
  rw [wrap_u64, wrap_u64]
  unfold big
  omega

set_option maxRecDepth 100000 in
set_option maxHeartbeats 1000000 in
theorem rhex_walk (s : ByteArray) (w : World) (hs : s.size ≤ 9223372036854775807) :
    Calls Tryd.prog 43 #[.string s] w fun e w' => e = .returned (.tuple #[.int .u64 (hexV s.data.toList), .bool (hexOk s.data.toList)]) ∧ w' = w := by
  go_enter Tryd.func43, Tryd.ntmps43
  go_wp2_with fail
  go_loop [4, 5, 6] (fun nv iv dv => ∃ i n : Nat, iv = .int .i64 i ∧ i ≤ s.size ∧ nv = .int .u64 n ∧ n < big ∧ hexL s.data.toList = hexA n (s.data.toList.drop i)) (fun _ iv _ => s.size - (intOf iv).toNat)
  case atStart => exact ⟨0, 0, rfl, by omega, rfl, by decide, rfl⟩
  case round =>
    obtain ⟨i, n, rfl, hi, rfl, hn, hx⟩ := hrel
    by_cases hil : i < s.size
    · rw [drop_byte hil, hexA] at hx
      have CD := rdigit_walk s[i] w
      rcases digI_facts s[i] with ⟨h1, h2⟩ | ⟨d, h1, h2, h3⟩
      · rw [h1] at hx
        rw [h2] at CD
        have e1 : hexV s.data.toList = 0 := by unfold hexV; rw [hx]; rfl
        have e2 : hexOk s.data.toList = false := by unfold hexOk; rw [hx]; rfl
        have C := Lib.hid CD
        have E1 := Lib.hid e1
        have E2 := Lib.hid e2
        clear hx h1 h2 e1 e2 CD
        go_wp2_with (go_at_call 60; refine C.out.mono ?_; rintro e w' ⟨rfl, rfl⟩)
        go_ret2
        exact ⟨by rw [E1.out, E2.out]; rfl, rfl⟩
      · rw [h1] at hx
        rw [h3] at CD
        have C := Lib.hid CD
        have HO := mul_step hn h2
        have HN : (16 * n + d) % big < big := Nat.mod_lt _ (by decide)
        have hx : hexL s.data.toList = hexA ((16 * n + d) % big) (s.data.toList.drop (i + 1)) := hx
        have Hx := Lib.hid hx
        have h0 : decide ((d : Int) < 0) = false := decide_eq_false (by omega)
        have hw : IntKind.u64.wrap (d : Int) = d := wraps_u64 _ (by omega) (by omega)
        generalize (16 * n + d) % big = N at *
        have HO := Lib.hid HO
        have HN := Lib.hid HN
        clear hx h1 h3 CD
        go_wp2_with (go_at_call 60; refine C.out.mono ?_; rintro e w' ⟨rfl, rfl⟩)
        go_round
        case rel => exact ⟨i + 1, N, by go_num, by omega, by rw [← HO.out], HN.out, Hx.out⟩
        case measure => simp [intOf]; omega
    · rw [drop_all (by omega), hexA] at hx
      have e1 : hexV s.data.toList = n := by unfold hexV; rw [hx]; rfl
      have e2 : hexOk s.data.toList = true := by unfold hexOk; rw [hx]; rfl
      have E1 := Lib.hid e1
      have E2 := Lib.hid e2
      clear hx e1 e2
      go_wp2_with fail
      go_ret2
      exact ⟨by rw [E1.out, E2.out]; rfl, rfl⟩

set_option maxRecDepth 100000 in
theorem sl_dig (i : Nat) (hi : i < 16) : ∀ w : World, (Instr.slice 9 (.string ⟨#[48, 49, 50, 51, 52, 53, 54, 55, 56, 57, 97, 98, 99, 100, 101, 102]⟩) (some (.int .u64 (i : Int))) (some (.int .u64 ((i : Int) + 1))) none).run Tryd.prog w = .ok (.string ⟨#[dig i]⟩) w := by
  have hc : i = 0 ∨ i = 1 ∨ i = 2 ∨ i = 3 ∨ i = 4 ∨ i = 5 ∨ i = 6 ∨ i = 7 ∨ i = 8 ∨ i = 9 ∨ i = 10 ∨ i = 11 ∨ i = 12 ∨ i = 13 ∨ i = 14 ∨ i = 15 := by omega
  rcases hc with rfl | rfl | rfl | rfl | rfl | rfl | rfl | rfl | rfl | rfl | rfl | rfl | rfl | rfl | rfl | rfl
  all_goals exact fun _ => by kernel_rfl

set_option maxRecDepth 100000 in
set_option maxHeartbeats 1000000 in
theorem rdigits_walk (n k : Nat) (w : World) (hn : n < big) (hk : k ≤ 16) :
    Calls Tryd.prog 28 #[.int .u64 n, .int .i64 k] w fun e w' => e = .returned (.string ⟨(hexedL n k).toArray⟩) ∧ w' = w := by
  go_enter Tryd.func28, Tryd.ntmps28
  go_wp2_with fail
  go_loop [0, 5, 6] (fun nv sv iv => ∃ (i : Nat) (s : ByteArray), iv = .int .i64 i ∧ i ≤ k ∧ nv = .int .u64 ((n / 16 ^ i : Nat) : Int) ∧ sv = .string s ∧ s.data.toList = hexedL n i) (fun _ _ iv => k - (intOf iv).toNat)
  case atStart => exact ⟨0, ⟨#[]⟩, rfl, by omega, by simp, rfl, rfl⟩
  case round =>
    obtain ⟨i, s, rfl, hi, rfl, rfl, hs⟩ := hrel
    by_cases hlt : i < k
    · have hm : n / 16 ^ i < big := Nat.lt_of_le_of_lt (Nat.div_le_self _ _) hn
      have hnx : n / 16 ^ (i + 1) = n / 16 ^ i / 16 := by rw [Nat.pow_succ, Nat.div_div_eq_div_mul]
      have hnext := hexedL_next i n
      have g1 : decide (i < k) = true := decide_eq_true hlt
      have hsz : s.size ≤ 16 := by rw [← len_data, hs, hexedL_length]; omega
      generalize n / 16 ^ i = M at *
      have e1 : (M : Int) % 16 = ((M % 16 : Nat) : Int) := by omega
      have e2 : (M : Int).tmod 16 = ((M % 16 : Nat) : Int) := by rw [Int.tmod_eq_emod_of_nonneg (by omega)]; omega
      have e3 : (M : Int) / 16 = ((M / 16 : Nat) : Int) := by omega
      have e4 : (M : Int).tdiv 16 = ((M / 16 : Nat) : Int) := by rw [Int.tdiv_eq_ediv_of_nonneg (by omega)]; omega
      have hD : M % 16 < 16 := by omega
      have hMq : M / 16 < big := by omega
      have ix := sl_dig (M % 16) hD
      generalize M % 16 = D at *
      generalize M / 16 = Q at *
      have e5 : IntKind.u64.wrap ((D : Int) + 1) = D + 1 := wraps_u64 _ (by omega) (by omega)
      have e6 : IntKind.u64.wrap (Q : Int) = Q := wraps_u64 _ (by omega) (by unfold big at hMq; omega)
      have Hs := Lib.hid hs
      have Hnx := Lib.hid hnx
      have Hnext := Lib.hid hnext
      have HQ := Lib.hid hMq
      have Hm := Lib.hid hm
      have hDi : (D : Int) < 16 := by omega
      clear hs hnx hnext hMq hm hn
      go_wp2_with fail
      go_round
      case rel => exact ⟨i + 1, _, by go_num, by omega, by rw [Hnx.out], rfl, by rw [Hnext.out, cat_data, Hs.out]; rfl⟩
      case measure => simp [intOf]; omega
    · have g1 : decide (i < k) = false := decide_eq_false hlt
      have hik : i = k := by omega
      have Hik := Lib.hid hik
      have Hs := Lib.hid hs
      clear hs hik
      go_wp2_with fail
      go_ret
      refine ⟨?_, rfl⟩
      rw [show (⟨(hexedL n k).toArray⟩ : ByteArray) = s from data_inj (by rw [Hs.out, Hik.out])]
      rfl

/-- Where a sign first stands. -/
def posC (c : UInt8) : List UInt8 → Option Nat
  | [] => none
  | b :: l => if b = c then some 0 else (posC c l).map (· + 1)
def placeV (c : UInt8) (l : List UInt8) : Int := match posC c l with
  | none => -1
  | some k => k
theorem posC_none {c : UInt8} : ∀ {l : List UInt8}, (∀ j : Nat, l[j]? ≠ some c) → posC c l = none
  | [], _ => rfl
  | b :: l, h => by
    have h0 := h 0
    unfold posC
    rw [if_neg (fun e => h0 (by simp [e])), posC_none (fun j => h (j + 1))]
    rfl
theorem posC_some {c : UInt8} : ∀ {l : List UInt8} {i : Nat}, (∀ j : Nat, j < i → l[j]? ≠ some c) → l[i]? = some c → posC c l = some i
  | [], i, _, h => by simp at h
  | b :: l, 0, _, h => by unfold posC; rw [if_pos (by simpa using h)]
  | b :: l, i + 1, h, hc => by
    have h0 := h 0 (by omega)
    unfold posC
    rw [if_neg (fun e => h0 (by simp [e])), posC_some (i := i) (fun j hj => h (j + 1) (by omega)) (by simpa using hc)]
    rfl
theorem pos_cut {c : UInt8} : ∀ {l : List UInt8}, (posC c l = none → (cutC c l).2.2 = false) ∧ ∀ k, posC c l = some k → cutC c l = (l.take k, l.drop (k + 1), true) ∧ k < l.length
  | [] => ⟨fun _ => rfl, fun k h => by cases h⟩
  | b :: l => by
    have ih := @pos_cut c l
    unfold posC cutC
    by_cases hb : b = c
    · rw [if_pos hb, if_pos hb]
      exact ⟨(fun h => by cases h), (fun k h => by cases h; exact ⟨rfl, by simp⟩)⟩
    · rw [if_neg hb, if_neg hb]
      cases hp : posC c l with
      | none => exact ⟨fun _ => ih.1 hp, fun k h => by cases h⟩
      | some k =>
        refine ⟨(fun h => by cases h), fun k' h => ?_⟩
        cases h
        obtain ⟨h1, h2⟩ := ih.2 k hp
        rw [h1]
        exact ⟨rfl, by simp; omega⟩

set_option maxRecDepth 100000 in
set_option maxHeartbeats 1000000 in
theorem rplace_walk (s : ByteArray) (c : UInt8) (w : World) (hs : s.size ≤ 100000) :
    Calls Tryd.prog 63 #[.string s, .int .u8 c.toNat] w fun e w' => e = .returned (.int .i64 (placeV c s.data.toList)) ∧ w' = w := by
  go_enter Tryd.func63, Tryd.ntmps63
  go_wp2_with fail
  go_loop [5] (fun iv => ∃ i : Nat, iv = .int .i64 i ∧ i ≤ s.size ∧ ∀ j : Nat, j < i → s.data.toList[j]? ≠ some c) (fun iv => s.size - (intOf iv).toNat)
  case atStart => exact ⟨0, rfl, by omega, fun j hj => absurd hj (by omega)⟩
  case round =>
    obtain ⟨i, rfl, hi, hx⟩ := hrel
    have Hx := Lib.hid hx
    clear hx
    by_cases hil : i < s.size
    · have hsi : s.data.toList[i]? = some s[i] := by rw [List.getElem?_eq_getElem (by simpa using hil)]; rfl
      by_cases hd : s[i] = c
      · have e1 : ((s[i].toNat : Int) == (c.toNat : Int)) = true := by rw [hd]; simp
        have E := Lib.hid (show placeV c s.data.toList = i by unfold placeV; rw [posC_some Hx.out (by rw [hsi, hd])])
        clear hd hsi
        go_wp2_with fail
        go_ret
        exact ⟨by rw [E.out]; try rfl, rfl⟩
      · have e1 := byte_ne hd
        have Hd := Lib.hid (show s.data.toList[i]? ≠ some c by rw [hsi]; exact fun e => hd (Option.some.inj e))
        clear hd hsi
        go_wp2_with fail
        go_round
        case rel => exact ⟨i + 1, by go_num, by omega, fun j hj => if h : j = i then h ▸ Hd.out else Hx.out j (by omega)⟩
        case measure => simp [intOf]; omega
    · have E := Lib.hid (show placeV c s.data.toList = -1 by
        unfold placeV
        rw [posC_none (fun j e => by
          have h1 := (List.getElem?_eq_some_iff.1 e).1
          rw [len_data] at h1
          exact Hx.out j (by omega) e)])
      go_wp2_with fail
      go_ret
      exact ⟨by rw [E.out]; try rfl, rfl⟩

theorem key_place : ∀ c : UInt8, keyC c = decide (0 ≤ placeV c [97, 98, 99, 100, 101, 102, 103, 104, 105, 106, 107, 108, 109, 110, 111, 112, 113, 114, 115, 116, 117, 118, 119, 120, 121, 122, 48, 49, 50, 51, 52, 53, 54, 55, 56, 57, 95, 45, 42, 47, 64]) := byte_all (P := fun c => keyC c = decide (0 ≤ placeV c [97, 98, 99, 100, 101, 102, 103, 104, 105, 106, 107, 108, 109, 110, 111, 112, 113, 114, 115, 116, 117, 118, 119, 120, 121, 122, 48, 49, 50, 51, 52, 53, 54, 55, 56, 57, 95, 45, 42, 47, 64])) (by decide +kernel)

theorem ok_size {f : UInt8 → Bool} {s : ByteArray} {n : Nat} (h : s.data.toList.all f = true) : (s.data.toList.all f && (decide (1 ≤ s.data.toList.length) && decide (s.data.toList.length ≤ n))) = (decide ((0 : Int) < s.size) && decide ((s.size : Int) ≤ n)) := by
  rw [h, len_data, Bool.true_and]
  congr 1
  · exact decide_eq_decide.2 (by omega)
  · exact decide_eq_decide.2 (by omega)

set_option maxRecDepth 100000 in
set_option maxHeartbeats 1000000 in
theorem rkey_walk (s : ByteArray) (w : World) (hs : s.size ≤ 100000) :
    Calls Tryd.prog 64 #[.string s] w fun e w' => e = .returned (.bool (keyOk s.data.toList)) ∧ w' = w := by
  go_enter Tryd.func64, Tryd.ntmps64
  go_wp2_with fail
  go_loop [4] (fun iv => ∃ i : Nat, iv = .int .i64 i ∧ i ≤ s.size ∧ (s.data.toList.take i).all keyC = true) (fun iv => s.size - (intOf iv).toNat)
  case atStart => exact ⟨0, rfl, by omega, rfl⟩
  case round =>
    obtain ⟨i, rfl, hi, hx⟩ := hrel
    by_cases hil : i < s.size
    · have Hx := Lib.hid hx
      have hI := Lib.hid (rplace_walk ⟨#[97, 98, 99, 100, 101, 102, 103, 104, 105, 106, 107, 108, 109, 110, 111, 112, 113, 114, 115, 116, 117, 118, 119, 120, 121, 122, 48, 49, 50, 51, 52, 53, 54, 55, 56, 57, 95, 45, 42, 47, 64]⟩ s[i] w (by decide))
      have hk := key_place s[i]
      obtain ⟨v, hv⟩ : ∃ v, placeV s[i] (⟨#[97, 98, 99, 100, 101, 102, 103, 104, 105, 106, 107, 108, 109, 110, 111, 112, 113, 114, 115, 116, 117, 118, 119, 120, 121, 122, 48, 49, 50, 51, 52, 53, 54, 55, 56, 57, 95, 45, 42, 47, 64]⟩ : ByteArray).data.toList = v := ⟨_, rfl⟩
      rw [hv] at hI
      rw [show placeV s[i] _ = v from hv] at hk
      have Hk := Lib.hid hk
      clear hx hk hv
      by_cases h0 : 0 ≤ v
      · have g0 : decide (v < 0) = false := decide_eq_false (by omega)
        have HK := Lib.hid (show keyC s[i] = true by rw [Hk.out, decide_eq_true h0])
        clear h0
        go_wp2_with (go_at_call 63; refine hI.out.mono ?_; rintro e w' ⟨rfl, rfl⟩)
        go_round
        case rel => exact ⟨i + 1, by go_num, by omega, all_step hil Hx.out HK.out⟩
        case measure => simp [intOf]; omega
      · have g0 : decide (v < 0) = true := decide_eq_true (by omega)
        have HK := Lib.hid (show keyOk s.data.toList = false by
          unfold keyOk
          rw [all_stop hil (show keyC s[i] = false by rw [Hk.out, decide_eq_false h0])]
          rfl)
        clear h0
        go_wp2_with (go_at_call 63; refine hI.out.mono ?_; rintro e w' ⟨rfl, rfl⟩)
        go_ret
        exact ⟨by rw [HK.out]; try rfl, rfl⟩
    · have h1 : s.data.toList.take i = s.data.toList := List.take_of_length_le (by rw [len_data]; omega)
      rw [h1] at hx
      have E := Lib.hid (show keyOk s.data.toList = _ from ok_size (n := 60) hx)
      clear hx h1
      go_wp2_with fail
      all_goals
        go_ret
        refine ⟨?_, rfl⟩
        rw [E.out]
        simp_all

set_option maxRecDepth 100000 in
set_option maxHeartbeats 1000000 in
theorem rvalue_walk (s : ByteArray) (w : World) (hs : s.size ≤ 100000) :
    Calls Tryd.prog 65 #[.string s] w fun e w' => e = .returned (.bool (valOk s.data.toList)) ∧ w' = w := by
  go_enter Tryd.func65, Tryd.ntmps65
  go_wp2_with fail
  go_loop [3] (fun iv => ∃ i : Nat, iv = .int .i64 i ∧ i ≤ s.size ∧ (s.data.toList.take i).all valC = true) (fun iv => s.size - (intOf iv).toNat)
  case atStart => exact ⟨0, rfl, by omega, rfl⟩
  case round =>
    obtain ⟨i, rfl, hi, hx⟩ := hrel
    by_cases hil : i < s.size
    · have Hx := Lib.hid hx
      have hc : (s[i].toNat : Int) ≤ 255 := by have := s[i].toNat_lt; omega
      have Hk := Lib.hid (valC_iff s[i])
      clear hx
      go_wp2_with fail
      all_goals first
        | (go_round
           case rel => exact ⟨i + 1, by go_num, by omega, all_step hil Hx.out (Hk.out.2 (by simp only [beq_iff_eq, beq_eq_false_iff_ne, ne_eq] at *; omega))⟩
           case measure => simp [intOf]; omega)
        | (go_ret
           refine ⟨?_, rfl⟩
           have hf : valC s[i] = false := Bool.eq_false_iff.2 (fun h => by have hq := Hk.out.1 h; (try simp only [beq_iff_eq, beq_eq_false_iff_ne, ne_eq] at *); omega)
           unfold valOk
           rw [all_stop hil hf]
           rfl)
    · have h1 : s.data.toList.take i = s.data.toList := List.take_of_length_le (by rw [len_data]; omega)
      rw [h1] at hx
      have E := Lib.hid (show valOk s.data.toList = _ from ok_size (n := 200) hx)
      clear hx h1
      go_wp2_with fail
      all_goals
        go_ret
        refine ⟨?_, rfl⟩
        rw [E.out]
        simp_all

end Go.Proofs.YtfnbkcdcdeojfaaDoor
