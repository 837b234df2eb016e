/- Package ctx, walked: digits, parts, keys and values. -/
import Derived.Test.YtfnbkcdcdeojfaaDoorChecked
import Derived.Test.YtfnbkcdcdeojfaaDoorCs
import Derived.Test.YtfnbkcdcdeojfaaDoorCc
import Derived.Test.YtfnbkcdcdeojfaaDoorMb
import Derived.BigQuiet
import Derived.IntWalk
import Derived.Laws.BitsLemmas
import Derived.Deep.LoopGhost
set_option linter.unusedVariables false
set_option linter.unusedSimpArgs false
namespace Go.Proofs.YtfnbkcdcdeojfaaDoor
open Go.RowKit Go.Mk Go.Cx
attribute [-go_sem] Builtin.append_

theorem wrap_u64 (n : Int) : IntKind.u64.wrap n = n % 18446744073709551616 := by simp [IntKind.wrap, IntKind.bits, IntKind.signed]
theorem wraps_u64 (n : Int) (h₀ : 0 ≤ n) (h₁ : n < 2 ^ 64) : IntKind.u64.wrap n = n := by rw [wrap_u64]; omega
theorem or_step {n d : Nat} (hn : n < big) (hd : d < 16) : bits BinOp.or IntKind.u64 (IntKind.u64.wrap ((n : Int) * 16)) (d : Int) = (((16 * n + d) % big : Nat) : Int) := by
  rw [wrap_u64]
  unfold big at *
  rw [bits_join .u64 64 (by decide) wraps_u64 4 ((n : Int) * 16 % 18446744073709551616) (d : Int) (by omega) (by omega) (by omega) (by omega) (by omega) (by omega)]
  omega
theorem toU8 (c : UInt8) : ((c.toNat : Int)).toNat.toUInt8 = c := by simp

theorem idx_none {c : UInt8} (h : digN c = none) (w : World) :
    Calls Tryd.prog 42 #[.string ⟨#[48, 49, 50, 51, 52, 53, 54, 55, 56, 57, 97, 98, 99, 100, 101, 102]⟩, .int .u8 c.toNat] w fun e w' => e = .returned (.int .i64 (-1)) ∧ w' = w := by
  refine (Tryd.strings_IndexByte _ _ _).mono ?_
  rintro e w' ⟨rfl, rfl⟩
  rw [toU8]
  have h1 := index_digs c
  unfold digI at h1
  rw [h] at h1
  exact ⟨congrArg (fun x => Ending.returned (.int .i64 x)) h1, rfl⟩
theorem idx_some {c : UInt8} {d : Nat} (h : digN c = some d) (w : World) :
    Calls Tryd.prog 42 #[.string ⟨#[48, 49, 50, 51, 52, 53, 54, 55, 56, 57, 97, 98, 99, 100, 101, 102]⟩, .int .u8 c.toNat] w fun e w' => e = .returned (.int .i64 d) ∧ w' = w := by
  refine (Tryd.strings_IndexByte _ _ _).mono ?_
  rintro e w' ⟨rfl, rfl⟩
  rw [toU8]
  have h1 := index_digs c
  unfold digI at h1
  rw [h] at h1
  exact ⟨congrArg (fun x => Ending.returned (.int .i64 x)) h1, rfl⟩

theorem drop_byte {s : ByteArray} {i : Nat} (h : i < s.size) : s.data.toList.drop i = s[i] :: s.data.toList.drop (i + 1) := by
  rw [List.drop_eq_getElem_cons (by simpa using h)]
  rfl
theorem drop_all {s : ByteArray} {i : Nat} (h : s.size ≤ i) : s.data.toList.drop i = [] := List.drop_eq_nil_of_le (by simpa using h)

set_option maxRecDepth 100000 in
set_option maxHeartbeats 1000000 in
theorem hex_walk (s : ByteArray) (w : World) (hs : s.size ≤ 9223372036854775807) :
    Calls Tryd.prog 26 #[.string s] w fun e w' => e = .returned (.tuple #[.int .u64 (hexV s.data.toList), .bool (hexOk s.data.toList)]) ∧ w' = w := by
  go_enter Tryd.func26, Tryd.ntmps26
  go_wp2_with fail
  go_loop [2, 8] (fun nv iv => ∃ i n : Nat, iv = .int .i64 i ∧ i ≤ s.size ∧ nv = .int .u64 n ∧ n < big ∧ hexL s.data.toList = hexA n (s.data.toList.drop i)) (fun _ iv => s.size - (intOf iv).toNat)
  case atStart => exact ⟨0, 0, rfl, by omega, rfl, by decide, rfl⟩
  case round =>
    obtain ⟨i, n, rfl, hi, rfl, hn, hx⟩ := hrel
    by_cases hil : i < s.size
    · rw [drop_byte hil, hexA] at hx
      cases hd : digN s[i] with
      | none =>
        rw [hd] at hx
        have e1 : hexV s.data.toList = 0 := by unfold hexV; rw [hx]; rfl
        have e2 : hexOk s.data.toList = false := by unfold hexOk; rw [hx]; rfl
        have C := Lib.hid (idx_none hd w)
        have E1 := Lib.hid e1
        have E2 := Lib.hid e2
        clear hx hd e1 e2
        go_wp2_with (go_at_call 42; refine C.out.mono ?_; rintro e w' ⟨rfl, rfl⟩)
        go_ret2
        exact ⟨by rw [E1.out, E2.out]; rfl, rfl⟩
      | some d =>
        rw [hd] at hx
        have hdl := digN_lt hd
        have C := Lib.hid (idx_some hd w)
        have HO := Lib.hid (or_step hn hdl)
        have Hx := Lib.hid hx
        have h0 : decide ((d : Int) < 0) = false := decide_eq_false (by omega)
        clear hx hd
        go_wp2_with (go_at_call 42; refine C.out.mono ?_; rintro e w' ⟨rfl, rfl⟩)
        go_round
        case rel => exact ⟨i + 1, (16 * n + d) % big, by go_num, by omega, by rw [← HO.out], Nat.mod_lt _ (by decide), Hx.out⟩
        case measure => simp [intOf]; omega
    · rw [drop_all (by omega), hexA] at hx
      have e1 : hexV s.data.toList = n := by unfold hexV; rw [hx]; rfl
      have e2 : hexOk s.data.toList = true := by unfold hexOk; rw [hx]; rfl
      have E1 := Lib.hid e1
      have E2 := Lib.hid e2
      clear hx e1 e2
      go_wp2_with fail
      go_ret2
      exact ⟨by rw [E1.out, E2.out]; rfl, rfl⟩

theorem ofNat_dig {d : Nat} (h : d < 16) : (⟨#[48, 49, 50, 51, 52, 53, 54, 55, 56, 57, 97, 98, 99, 100, 101, 102]⟩ : ByteArray).data[d]? = some (dig d) := by
  have h1 : ∀ n : Fin 16, (⟨#[48, 49, 50, 51, 52, 53, 54, 55, 56, 57, 97, 98, 99, 100, 101, 102]⟩ : ByteArray).data[n.1]? = some (dig n.1) := by decide
  exact h1 ⟨d, h⟩

/-- A row of bytes in memory. -/
def byteV (c : UInt8) : List Value := [.int .u8 c.toNat]

set_option maxRecDepth 100000 in
set_option maxHeartbeats 1000000 in
theorem parts_nil (w : World) (c : UInt8) : Calls Tryd.prog 31 #[.string ⟨#[]⟩, .string ⟨#[c]⟩] w fun e w' => e = .returned (.slice none 0 0) ∧ w' = w := by
  go_enter Tryd.func31, Tryd.ntmps31
  go_wp2_with fail
  go_ret
  exact ⟨rfl, rfl⟩

/-- A list of texts in a new block. -/
def strs (l : List ByteArray) : List (List Value) := l.map fun s => [Value.string s]
def dataL (l : List ByteArray) : List (List UInt8) := l.map fun s => s.data.toList

theorem strs_flat : ∀ l : List ByteArray, (strs l).flatten = l.map Value.string
  | [] => rfl
  | x :: l => by
    have ih := strs_flat l
    unfold strs at ih ⊢
    rw [List.map_cons, List.flatten_cons, ih]
    rfl
theorem len_data (s : ByteArray) : s.data.toList.length = s.size := Array.length_toList

theorem split_walk (s : ByteArray) (c : UInt8) (m : Int) (w : World) (hs : s.size ≤ 100000) (hm : w.cell? ⟨0, 0, none⟩ = some (.int .i64 m)) :
    Calls Tryd.prog 25 #[.string s, .string ⟨#[c]⟩] w fun e w' => ∃ g l, e = .returned (.slice (some ⟨g, 0, none⟩) l.length l.length) ∧ dataL l = splitC c s.data.toList ∧ (∀ x ∈ l, x.size ≤ s.size) ∧
      SliceIs w' 9 1 (strs l) (.slice (some ⟨g, 0, none⟩) l.length l.length) ∧ Only [] w w' ∧ w.heap.size ≤ g := by
  have h1 : 1 ≤ (⟨#[c]⟩ : ByteArray).size := Nat.le_refl 1
  refine (Tryd.strings_Split s ⟨#[c]⟩ m w (by omega) hm h1).mono ?_
  rintro e w' ⟨rfl, rfl⟩
  have hlen := Lib.splitB_all ⟨#[c]⟩ h1 0 _ s rfl
  have hd : dataL (Lib.splitB ⟨#[c]⟩ 0 (Lib.countB s ⟨#[c]⟩) s) = splitC c s.data.toList := by
    unfold dataL
    rw [Lib.splitB_data]
    exact split_C c s.data.toList
  generalize Lib.splitB ⟨#[c]⟩ 0 (Lib.countB s ⟨#[c]⟩) s = l at hlen hd
  refine ⟨w.heap.size, l, by rw [hlen], hd, fun x hx => ?_, ?_, (Only.refl _ _).alloc _, Nat.le_refl _⟩
  · have h1 := splitC_len c s.data.toList x.data.toList (by rw [← hd]; exact List.mem_map.2 ⟨x, hx, rfl⟩)
    rw [len_data, len_data] at h1
    exact h1
  · have hsz : l.length ≤ maxLen := by
      have h1 := congrArg List.length hd
      unfold dataL at h1
      rw [List.length_map, splitC_length] at h1
      have h2 := List.count_le_length (a := c) (l := s.data.toList)
      have h3 := len_data s
      simp only [maxLen]
      omega
    have h2 := rowMem_new (w := w) (e := 9) (k := 1) (xs := strs l) (rest := #[]) (cap := l.length) (by intro x hx; obtain ⟨y, _, rfl⟩ := List.mem_map.1 hx; rfl) (by unfold strs; rw [List.length_map]; omega) hsz (by unfold strs; rw [List.length_map]; rfl)
    have h3 : (strs l).flatten.toArray ++ #[] = (l.map Value.string).toArray := by
      rw [Array.append_empty, strs_flat]
    rw [h3] at h2
    have h4 := SliceIs.row h2
    unfold strs at h4 ⊢
    rw [List.length_map] at h4
    exact h4

end Go.Proofs.YtfnbkcdcdeojfaaDoor
