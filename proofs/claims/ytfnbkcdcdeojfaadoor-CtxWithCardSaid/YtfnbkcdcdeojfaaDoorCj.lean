/- Package ctx, walked: a number as digits. -/
import Derived.Test.YtfnbkcdcdeojfaaDoorCi
import Derived.Laws.IdiomStrings
set_option linter.unusedVariables false
set_option linter.unusedSimpArgs false
namespace Go.Proofs.YtfnbkcdcdeojfaaDoor
open Go.RowKit Go.Mk Go.Cx
attribute [-go_sem] Builtin.append_

theorem hexedL_next : ∀ (i n : Nat), hexedL n (i + 1) = dig (n / 16 ^ i % 16) :: hexedL n i
  | 0, n => by simp [hexedL]
  | i + 1, n => by
    rw [hexedL, hexedL_next i (n / 16)]
    conv => rhs; rw [hexedL]
    rw [List.cons_append, Nat.div_div_eq_div_mul, Nat.pow_succ, Nat.mul_comm (16 ^ i) 16]

def rowH (n k i : Nat) : List (List Value) := List.replicate (k - i) [.int .u8 0] ++ (hexedL n i).map byteV
theorem rowH_zero (n k : Nat) : rowH n k 0 = List.replicate k [.int .u8 0] := by simp [rowH, hexedL]
theorem rowH_full (n k : Nat) : rowH n k k = (hexedL n k).map byteV := by simp [rowH]
theorem rowH_set {n k i : Nat} (h : i < k) : (rowH n k i).set (k - 1 - i) (byteV (dig (n / 16 ^ i % 16))) = rowH n k (i + 1) := by
  unfold rowH
  rw [show k - i = (k - 1 - i) + 1 by omega, List.replicate_succ', List.append_assoc, List.set_append_right _ _ (by simp)]
  simp only [List.length_replicate, Nat.sub_self, List.cons_append, List.nil_append, List.set_cons_zero]
  rw [hexedL_next, List.map_cons, show k - (i + 1) = k - 1 - i by omega]
theorem rowH_at {n k i : Nat} (h : i < k) : (rowH n k i)[k - 1 - i]? = some [.int .u8 0] := by
  unfold rowH
  rw [List.getElem?_append_left (by simp; omega), List.getElem?_replicate, if_pos (by omega)]
theorem wraps_u64' (n : Int) (h₀ : 0 ≤ n) (h₁ : n < 2 ^ 64) : IntKind.u64.wrap n = n := wraps_u64 n h₀ h₁
theorem and15 {n : Nat} (hn : n < big) : bits BinOp.and IntKind.u64 (n : Int) 15 = ((n % 16 : Nat) : Int) := by
  unfold big at hn
  have := bits_mask .u64 64 (by decide) wraps_u64 4 (by decide) (n : Int) (by omega) (by omega)
  rw [show ((15 : Int)) = 2 ^ 4 - 1 by decide, this]
  omega
theorem get_dig {D : Nat} (h : D < 16) (h' : D < (⟨#[48, 49, 50, 51, 52, 53, 54, 55, 56, 57, 97, 98, 99, 100, 101, 102]⟩ : ByteArray).size) :
    (⟨#[48, 49, 50, 51, 52, 53, 54, 55, 56, 57, 97, 98, 99, 100, 101, 102]⟩ : ByteArray)[D]'h' = dig D := by
  have h1 := ofNat_dig h
  have h2 : (⟨#[48, 49, 50, 51, 52, 53, 54, 55, 56, 57, 97, 98, 99, 100, 101, 102]⟩ : ByteArray).data[D]? = some ((⟨#[48, 49, 50, 51, 52, 53, 54, 55, 56, 57, 97, 98, 99, 100, 101, 102]⟩ : ByteArray)[D]'h') := Array.getElem?_eq_getElem h'
  rw [h2] at h1
  exact Option.some.inj h1
theorem info_byte : ∃ i, Tryd.prog.info? 5 = some i ∧ i.zero = some (.int .u8 0) ∧ i.size = 1 ∧ i.bytes = 1 := by
  obtain ⟨i0, hi, hz0, hz1, hz2⟩ := info_parts (P := Tryd.prog) (e := 5) (z := .int .u8 0) (size := 1) (bytes := 1) (by kernel_rfl)
  exact ⟨i0, hi, hz0, hz1, hz2⟩

set_option maxRecDepth 100000 in
set_option maxHeartbeats 1000000 in
theorem hexed_walk (n k : Nat) (w : World) (hn : n < big) (hk : k ≤ 16) :
    Calls Tryd.prog 27 #[.int .u64 n, .int .i64 k] w fun e w' => e = .returned (.string ⟨(hexedL n k).toArray⟩) ∧ Only [] w w' := by
  obtain ⟨i0, hi0, hz0, hz1, hz2⟩ := info_byte
  obtain ⟨o, hmk, hrow⟩ := run_make_is (P := Tryd.prog) (w := w) Tryd.underlying23 hi0 hz0 hz1 hz2 rfl k (by omega) (by omega)
  have oa : Only [] w (w.alloc o) := (Only.refl _ _).alloc _
  have Hrow : Hid (RowMem (w.alloc o) 5 1 (rowH n k 0) w.heap.size 0 k) := by rw [rowH_zero]; exact hrow
  have Ho := Lib.hid oa
  clear hi0 hz0 hz1 hz2 hrow oa
  go_enter Tryd.func27, Tryd.ntmps27
  go_wp2_with fail
  obtain ⟨sg, hsg⟩ : ∃ sg, sg = w.heap.size := ⟨_, rfl⟩
  rw [← hsg] at hmk Hrow ⊢
  have Hsg := Lib.hid hsg
  generalize hw3 : w.alloc o = w3 at *
  clear hmk hw3 hsg
  go_loopw [0, 11] (fun nv iv wr => ∃ i : Nat, iv = .int .i64 i ∧ i ≤ k ∧ nv = .int .u64 ((n / 16 ^ i : Nat) : Int) ∧ RowMem wr 5 1 (rowH n k i) sg 0 k ∧ Only [] w wr) (fun _ iv _ => k - (intOf iv).toNat)
  case atStart => exact ⟨0, rfl, by omega, by simp, Hrow.out, Ho.out⟩
  case round =>
    obtain ⟨i, rfl, hi, rfl, hrow, ho⟩ := hrel
    by_cases hlt : i < k
    · have hm : n / 16 ^ i < big := Nat.lt_of_le_of_lt (Nat.div_le_self _ _) hn
      have hnx : n / 16 ^ (i + 1) = n / 16 ^ i / 16 := by rw [Nat.pow_succ, Nat.div_div_eq_div_mul]
      have hset := hrow.setCell (rowH_at hlt) (f := 0) (by omega) (.int .u8 (dig (n / 16 ^ i % 16)).toNat)
      have hs0 : ([Value.int .u8 0] : List Value).set 0 (.int .u8 (dig (n / 16 ^ i % 16)).toNat) = byteV (dig (n / 16 ^ i % 16)) := rfl
      rw [hs0, rowH_set hlt] at hset
      simp only [Nat.zero_add, Nat.mul_one, Nat.add_zero] at hset
      have hb := hrow.lt
      have hfr := hrow.frozen (k - 1 - i)
      have hc0 := hrow.cell (rowH_at hlt) (f := 0) rfl
      simp only [Nat.zero_add, Nat.mul_one, Nat.add_zero] at hc0
      have hidx : (k : Int) - 1 - i = ((k - 1 - i : Nat) : Int) := by omega
      have hjk : ((k - 1 - i : Nat) : Int) < (k : Int) := by omega
      have hand := and15 hm
      have hdg := ofNat_dig (Nat.mod_lt (n / 16 ^ i) (by omega : 0 < 16))
      have Hnx := Lib.hid hnx
      clear hnx
      have Ho2 := Lib.hid ho
      have Hset := Lib.hid hset
      clear hset ho hrow
      generalize hM : n / 16 ^ i = M at *
      generalize hD : M % 16 = D at *
      generalize hdd : dig D = dd at *
      go_wp2_with fail
      have hDl : D < 16 := by omega
      refine ⟨⟨i + 1, by go_num, by omega, by rw [Hnx.out]; go_num, ?_, ?_⟩, by simp [intOf]; omega⟩
      · rw [get_dig hDl, hdd]; exact Hset.out
      · exact Ho2.out.setCell (.inr (by rw [Hsg.out]; exact Nat.le_refl _)) _
    · have hik : i = k := by omega
      subst hik
      rw [rowH_full] at hrow
      have hconv := run_convert_bytes_back (P := Tryd.prog) wr 23 9 5 ⟨sg, 0, none⟩ i (hexedL n i) Tryd.underlying23 Tryd.underlying5 Tryd.underlying9 (fun j hj => by
        have := hrow.cell (i := j) (f := 0) (x := byteV (hexedL n i)[j]) (by rw [List.getElem?_map, List.getElem?_eq_getElem hj]; rfl) rfl
        by_cases h0 : j = 0
        · subst h0; simpa [Addr.add] using this
        · simpa [Addr.add, h0] using this)
      rw [hexedL_length] at hconv
      have Ho2 := Lib.hid ho
      clear hrow ho
      go_wp2_with fail
      go_ret
      exact ⟨rfl, Ho2.out⟩

end Go.Proofs.YtfnbkcdcdeojfaaDoor
