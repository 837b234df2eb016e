/- Package ctx, walked: parts, keys and values. -/
import Derived.Test.YtfnbkcdcdeojfaaDoorCd
set_option linter.unusedVariables false
set_option linter.unusedSimpArgs false
namespace Go.Proofs.YtfnbkcdcdeojfaaDoor
open Go.RowKit Go.Mk Go.Cx
attribute [-go_sem] Builtin.append_

theorem empty_data {s : ByteArray} (h : s.data.toList = []) : s = ⟨#[]⟩ := by
  obtain ⟨⟨l⟩⟩ := s
  simp only at h
  subst h
  rfl
theorem ne_data {s : ByteArray} (h : s.data.toList ≠ []) : s ≠ ⟨#[]⟩ := fun e => h (by rw [e])

set_option maxRecDepth 100000 in
set_option maxHeartbeats 1000000 in
theorem parts_walk (s : ByteArray) (c : UInt8) (m : Int) (w : World) (hs : s.size ≤ 100000) (hm : w.cell? ⟨0, 0, none⟩ = some (.int .i64 m)) :
    Calls Tryd.prog 31 #[.string s, .string ⟨#[c]⟩] w fun e w' => ∃ p l, e = .returned (.slice p l.length l.length) ∧ dataL l = partsC c s.data.toList ∧ (∀ x ∈ l, x.size ≤ s.size) ∧
      SliceIs w' 9 1 (strs l) (.slice p l.length l.length) ∧ Only [] w w' ∧ ∀ b ∈ blockOf (.slice p l.length l.length), w.heap.size ≤ b := by
  by_cases h : s.data.toList = []
  · have e1 : partsC c s.data.toList = [] := by unfold partsC; rw [if_pos h]
    rw [empty_data h]
    refine (parts_nil w c).mono ?_
    rintro e w' ⟨rfl, rfl⟩
    exact ⟨none, [], rfl, rfl, by simp, .nil, Only.refl _ _, by simp [blockOf]⟩
  · have e1 : partsC c s.data.toList = splitC c s.data.toList := by unfold partsC; rw [if_neg h]
    have C := Lib.hid (split_walk s c m w hs hm)
    have E1 := Lib.hid e1
    have hb2 : s.toList.isEmpty = false := by
      rw [Lib.toList_data]
      simpa using h
    clear e1 hm
    go_enter Tryd.func31, Tryd.ntmps31
    go_wp2_with (go_at_call 25; refine C.out.mono ?_; rintro e w' ⟨g, l, rfl, h1, h2, h3, h4, h5⟩; have H := Lib.hid (And.intro h1 (And.intro h2 (And.intro h3 (And.intro h4 h5)))); clear h1 h2 h3 h4 h5)
    go_ret
    exact ⟨some ⟨g, 0, none⟩, l, rfl, by rw [E1.out]; exact H.out.1, H.out.2.1, H.out.2.2.1, H.out.2.2.2.1, by simpa [blockOf] using H.out.2.2.2.2⟩

def signI (c : UInt8) : Int := Lib.indexByte [95, 45, 42, 47, 64] c
theorem idx_sign {c : UInt8} (w : World) :
    Calls Tryd.prog 42 #[.string ⟨#[95, 45, 42, 47, 64]⟩, .int .u8 c.toNat] w fun e w' => e = .returned (.int .i64 (signI c)) ∧ w' = w := by
  refine (Tryd.strings_IndexByte _ _ _).mono ?_
  rintro e w' ⟨rfl, rfl⟩
  rw [toU8]
  exact ⟨rfl, rfl⟩

/-- A sign of a key, told by the tests of the code. -/
theorem keyC_iff : ∀ c : UInt8, keyC c = true ↔ (((97 : Int) ≤ c.toNat ∧ (c.toNat : Int) ≤ 122) ∨ ((48 : Int) ≤ c.toNat ∧ (c.toNat : Int) ≤ 57) ∨ 0 ≤ signI c) := by
  have h : ∀ c : UInt8, keyC c = true ↔ ((97 ≤ c.toNat ∧ c.toNat ≤ 122) ∨ (48 ≤ c.toNat ∧ c.toNat ≤ 57) ∨ 0 ≤ signI c) := byte_all (by decide +kernel)
  intro c
  rw [h c]
  omega
theorem all_step {f : UInt8 → Bool} {s : ByteArray} {i : Nat} (hil : i < s.size) (h : (s.data.toList.take i).all f = true) (hc : f s[i] = true) : (s.data.toList.take (i + 1)).all f = true := by
  have h1 : s.data.toList[i]? = some s[i] := by
    rw [List.getElem?_eq_getElem (by rw [len_data]; exact hil)]
    rfl
  rw [List.take_add_one, h1, List.all_append, h]
  simpa using hc
theorem all_stop {f : UInt8 → Bool} {s : ByteArray} {i : Nat} (hil : i < s.size) (hc : f s[i] = false) : s.data.toList.all f = false := by
  rw [List.all_eq_false]
  refine ⟨s[i], ?_, by rw [hc]; simp⟩
  have h1 : s.data.toList[i]? = some s[i] := by
    rw [List.getElem?_eq_getElem (by rw [len_data]; exact hil)]
    rfl
  exact List.mem_of_getElem? h1

set_option maxRecDepth 100000 in
set_option maxHeartbeats 1000000 in
theorem key_walk (s : ByteArray) (w : World) (hs : s.size ≤ 100000) :
    Calls Tryd.prog 36 #[.string s] w fun e w' => e = .returned (.bool (keyOk s.data.toList)) ∧ w' = w := by
  go_enter Tryd.func36, Tryd.ntmps36
  go_wp2_with fail
  go_loop [7] (fun iv => ∃ i : Nat, iv = .int .i64 i ∧ i ≤ s.size ∧ (s.data.toList.take i).all keyC = true) (fun iv => s.size - (intOf iv).toNat)
  case atStart => exact ⟨0, rfl, by omega, rfl⟩
  case round =>
    obtain ⟨i, rfl, hi, hx⟩ := hrel
    by_cases hil : i < s.size
    · have Hx := Lib.hid hx
      have hc : (s[i].toNat : Int) ≤ 255 := by have := s[i].toNat_lt; omega
      have hI := Lib.hid (idx_sign (c := s[i]) w)
      have Hk := Lib.hid (keyC_iff s[i])
      clear hx
      go_wp2_with (go_at_call 42; refine hI.out.mono ?_; rintro e w' ⟨rfl, rfl⟩)
      all_goals first
        | (go_round
           case rel => exact ⟨i + 1, by go_num, by omega, all_step hil Hx.out (Hk.out.2 (by omega))⟩
           case measure => simp [intOf]; omega)
        | (go_ret
           refine ⟨?_, rfl⟩
           have hf : keyC s[i] = false := Bool.eq_false_iff.2 (fun h => by have := Hk.out.1 h; omega)
           unfold keyOk
           rw [all_stop hil hf]
           rfl)
    · have h1 : s.data.toList.take i = s.data.toList := List.take_of_length_le (by rw [len_data]; omega)
      rw [h1] at hx
      have Hx := Lib.hid hx
      clear hx h1
      by_cases h0 : s.data.toList = []
      · have e1 : keyOk s.data.toList = false := by rw [h0]; rfl
        have E1 := Lib.hid e1
        have hb2 : s.toList.isEmpty = true := by
          rw [Lib.toList_data]
          simpa using h0
        clear e1 h0
        go_wp2_with fail
        go_ret
        exact ⟨(by rw [E1.out]; try rfl), rfl⟩
      · have e1 : keyOk s.data.toList = decide ((s.size : Int) ≤ 60) := by
          unfold keyOk
          rw [Hx.out, len_data, Bool.true_and]
          have h1 : 1 ≤ s.size := by rw [← len_data]; exact List.length_pos_iff.2 h0
          rw [decide_eq_true h1, Bool.true_and]
          exact decide_eq_decide.2 (by omega)
        have E1 := Lib.hid e1
        have hb2 : s.toList.isEmpty = false := by
          rw [Lib.toList_data]
          simpa using h0
        clear e1 h0
        go_wp2_with fail
        go_ret
        exact ⟨(by rw [E1.out]; try rfl), rfl⟩

theorem valC_iff : ∀ c : UInt8, valC c = true ↔ ((33 : Int) ≤ c.toNat ∧ (c.toNat : Int) ≤ 126 ∧ ¬ (c.toNat : Int) = 44 ∧ ¬ (c.toNat : Int) = 61) := by
  have h : ∀ c : UInt8, valC c = true ↔ (33 ≤ c.toNat ∧ c.toNat ≤ 126 ∧ ¬ c.toNat = 44 ∧ ¬ c.toNat = 61) := byte_all (by decide +kernel)
  intro c
  rw [h c]
  omega

set_option maxRecDepth 100000 in
set_option maxHeartbeats 1000000 in
theorem value_walk (s : ByteArray) (w : World) (hs : s.size ≤ 100000) :
    Calls Tryd.prog 37 #[.string s] w fun e w' => e = .returned (.bool (valOk s.data.toList)) ∧ w' = w := by
  go_enter Tryd.func37, Tryd.ntmps37
  go_wp2_with fail
  go_loop [7] (fun iv => ∃ i : Nat, iv = .int .i64 i ∧ i ≤ s.size ∧ (s.data.toList.take i).all valC = true) (fun iv => s.size - (intOf iv).toNat)
  case atStart => exact ⟨0, rfl, by omega, rfl⟩
  case round =>
    obtain ⟨i, rfl, hi, hx⟩ := hrel
    by_cases hil : i < s.size
    · have Hx := Lib.hid hx
      have hc : (s[i].toNat : Int) ≤ 255 := by have := s[i].toNat_lt; omega
      have Hk := Lib.hid (valC_iff s[i])
      clear hx
      go_wp2_with fail
      all_goals first
        | (go_round
           case rel => exact ⟨i + 1, by go_num, by omega, all_step hil Hx.out (Hk.out.2 (by simp only [beq_iff_eq, beq_eq_false_iff_ne, ne_eq] at *; omega))⟩
           case measure => simp [intOf]; omega)
        | (go_ret
           refine ⟨?_, rfl⟩
           have hf : valC s[i] = false := Bool.eq_false_iff.2 (fun h => by have hq := Hk.out.1 h; (try simp only [beq_iff_eq, beq_eq_false_iff_ne, ne_eq] at *); omega)
           unfold valOk
           rw [all_stop hil hf]
           rfl)
    · have h1 : s.data.toList.take i = s.data.toList := List.take_of_length_le (by rw [len_data]; omega)
      rw [h1] at hx
      have Hx := Lib.hid hx
      clear hx h1
      by_cases h0 : s.data.toList = []
      · have e1 : valOk s.data.toList = false := by rw [h0]; rfl
        have E1 := Lib.hid e1
        have hb2 : s.toList.isEmpty = true := by
          rw [Lib.toList_data]
          simpa using h0
        clear e1 h0
        go_wp2_with fail
        go_ret
        exact ⟨(by rw [E1.out]; try rfl), rfl⟩
      · have e1 : valOk s.data.toList = decide ((s.size : Int) ≤ 200) := by
          unfold valOk
          rw [Hx.out, len_data, Bool.true_and]
          have h1 : 1 ≤ s.size := by rw [← len_data]; exact List.length_pos_iff.2 h0
          rw [decide_eq_true h1, Bool.true_and]
          exact decide_eq_decide.2 (by omega)
        have E1 := Lib.hid e1
        have hb2 : s.toList.isEmpty = false := by
          rw [Lib.toList_data]
          simpa using h0
        clear e1 h0
        go_wp2_with fail
        go_ret
        exact ⟨(by rw [E1.out]; try rfl), rfl⟩

end Go.Proofs.YtfnbkcdcdeojfaaDoor
