/- The document's answer for layer 4, walked: With. -/
import Derived.Test.YtfnbkcdcdeojfaaDoorRh
import Derived.BigQuiet
import Derived.Deep.QuietTactic
set_option linter.unusedVariables false
set_option linter.unusedSimpArgs false
namespace Go.Proofs.YtfnbkcdcdeojfaaDoor
open Go.RowKit Go.Mk Go.Cx
attribute [-go_sem] Builtin.append_

def baseL (v : List UInt8) : List (List UInt8) := if v = [] then [] else [ot ++ [61] ++ v]
def lstL (v : List UInt8) (kvs : List KV) (i : Nat) : List (List UInt8) := baseL v ++ ((kvs.take i).filter (fun kv => kv.1 ≠ ot)).map kvL
theorem lst_ot {v : List UInt8} {kvs : List KV} {i : Nat} {kv : KV} (h : kvs[i]? = some kv) (ho : kv.1 = ot) : lstL v kvs (i + 1) = lstL v kvs i := by
  unfold lstL
  rw [List.take_add_one, h]
  simp [ho]
theorem lst_kv {v : List UInt8} {kvs : List KV} {i : Nat} {kv : KV} (h : kvs[i]? = some kv) (ho : kv.1 ≠ ot) : lstL v kvs (i + 1) = lstL v kvs i ++ [kvL kv] := by
  unfold lstL
  rw [List.take_add_one, h]
  simp [ho]
theorem lst_ne {v : List UInt8} {kvs : List KV} {i : Nat} : ∀ p ∈ lstL v kvs i, p ≠ [] := by
  intro p hp
  unfold lstL baseL at hp
  rcases List.mem_append.1 hp with hp | hp
  · split at hp
    · cases hp
    · rw [List.mem_singleton] at hp; subst hp; simp [ot]
  · obtain ⟨kv, _, rfl⟩ := List.mem_map.1 hp
    unfold kvL; simp
theorem join_nil_iff {L : List (List UInt8)} (h : ∀ p ∈ L, p ≠ []) : Lib.join L [44] = [] ↔ L = [] := by
  constructor
  · intro e
    cases L with
    | nil => rfl
    | cons x r => exact absurd e (join_ne_nil (h x (by simp)))
  · intro e; subst e; rfl
theorem lst_small {s : List UInt8} {mk : Mk} {i : Nat} (h : (readL s).2 = 0) : (lstL (writtenL mk) (membs [] (partsC 44 s)).1 i).length ≤ 33 ∧ (Lib.join (lstL (writtenL mk) (membs [] (partsC 44 s)).1 i) [44]).length ≤ 10000 := by
  obtain ⟨h1, h2, h3⟩ := read_ok h
  have h5 := @membs_len (partsC 44 s) []
  have h6 := (@membs_nodup (partsC 44 s) []).2.2
  have h7 := List.length_filter_le (fun kv : KV => decide (kv.1 ≠ ot)) ((membs [] (partsC 44 s)).1.take i)
  have hb : (baseL (writtenL mk)).length ≤ 1 := by unfold baseL; split <;> simp
  have hl : (lstL (writtenL mk) (membs [] (partsC 44 s)).1 i).length ≤ 33 := by
    unfold lstL
    rw [List.length_append, List.length_map]
    rw [List.length_take] at h7
    omega
  refine ⟨hl, Nat.le_trans (join_len_le (n := 261) fun p hp => ?_) (Nat.le_trans (Nat.mul_le_mul_right _ hl) (by omega))⟩
  unfold lstL at hp
  rcases List.mem_append.1 hp with hp | hp
  · unfold baseL at hp
    split at hp
    · cases hp
    · rw [List.mem_singleton] at hp
      subst hp
      have := written_le mk
      simp only [List.length_append, ot, List.length_cons, List.length_nil]
      omega
  · obtain ⟨kv, hk, rfl⟩ := List.mem_map.1 hp
    have hok := h6 kv (List.mem_of_mem_take (List.mem_filter.1 hk).1)
    have hk1 := hok.key
    have hk2 := hok.val
    unfold keyOk at hk1
    unfold valOk at hk2
    simp only [Bool.and_eq_true, decide_eq_true_eq] at hk1 hk2
    unfold kvL
    simp only [List.length_append, List.length_cons, List.length_nil]
    omega
theorem lst_all {s : List UInt8} {mk : Mk} {i : Nat} (h : (membs [] (partsC 44 s)).1.length ≤ i) : lstL (writtenL mk) (membs [] (partsC 44 s)).1 i = laidL s mk := by
  unfold lstL laidL baseL
  rw [List.take_of_length_le h]
theorem written_cases (t r : Nat) : writtenL ⟨true, t, true, r⟩ = [116, 104, 58] ++ shortL t ++ [59] ++ ([114, 118, 58] ++ hexedL r 14) ∧ writtenL ⟨true, t, false, r⟩ = [116, 104, 58] ++ shortL t ∧ writtenL ⟨false, t, true, r⟩ = [114, 118, 58] ++ hexedL r 14 ∧ writtenL ⟨false, t, false, r⟩ = [] := by
  refine ⟨?_, ?_, ?_, ?_⟩
  all_goals
    rw [writtenL_eq]
    unfold tPart rPart
    simp [Lib.join, Lib.joinTail]

theorem bad_cases {hT hR : Bool} {t r : Nat} (h : marksBad ⟨hT, t, hR, r⟩ = true) :
    72057594037927936 ≤ t ∨ (¬ 72057594037927936 ≤ t ∧ 72057594037927936 ≤ r) ∨ (¬ 72057594037927936 ≤ t ∧ ¬ 72057594037927936 ≤ r ∧ hT = false ∧ 0 < t) ∨ (¬ 72057594037927936 ≤ t ∧ ¬ 72057594037927936 ≤ r ∧ hT = true ∧ hR = false ∧ 0 < r) ∨ (¬ 72057594037927936 ≤ t ∧ ¬ 72057594037927936 ≤ r ∧ hT = false ∧ t = 0 ∧ hR = false ∧ 0 < r) := by
  by_cases c1 : 72057594037927936 ≤ t
  · exact .inl c1
  by_cases c2 : 72057594037927936 ≤ r
  · exact .inr (.inl ⟨c1, c2⟩)
  unfold marksBad at h
  simp only [c1, c2, decide_false, Bool.false_or, Bool.or_eq_true, Bool.and_eq_true, Bool.not_eq_true', bne_iff_ne] at h
  cases hT <;> cases hR <;> simp at h ⊢ <;> omega
theorem good_cases {hT hR : Bool} {t r : Nat} (h : marksBad ⟨hT, t, hR, r⟩ = false) :
    ¬ 72057594037927936 ≤ t ∧ ¬ 72057594037927936 ≤ r ∧ ((hT = true ∧ hR = true) ∨ (hT = true ∧ hR = false ∧ r = 0) ∨ (hT = false ∧ t = 0 ∧ hR = true) ∨ (hT = false ∧ t = 0 ∧ hR = false ∧ r = 0)) := by
  unfold marksBad at h
  simp only [Bool.or_eq_false_iff, decide_eq_false_iff_not, Bool.and_eq_false_iff, Bool.not_eq_false', bne_eq_false_iff_eq] at h
  obtain ⟨c1, c2, c3, c4⟩ := h
  refine ⟨c1, c2, ?_⟩
  cases hT <;> cases hR <;> simp at c3 c4 ⊢ <;> omega

theorem lst_zero {v : List UInt8} {kvs : List KV} (hv : v ≠ []) : lstL v kvs 0 = [ot ++ [61] ++ v] := by
  unfold lstL baseL; rw [if_neg hv]; rfl
theorem lst_zero_nil {v : List UInt8} {kvs : List KV} (hv : v = []) : lstL v kvs 0 = [] := by
  unfold lstL baseL; rw [if_pos hv]; rfl
theorem lst_next_nil {v : List UInt8} {kvs : List KV} {i : Nat} {kv : KV} (h : kvs[i]? = some kv) (ho : kv.1 ≠ ot) (hn : lstL v kvs i = []) : Lib.join (lstL v kvs (i + 1)) [44] = kvL kv := by
  rw [lst_kv h ho, hn, List.nil_append, Lib.join_one]
theorem lst_next {v : List UInt8} {kvs : List KV} {i : Nat} {kv : KV} (h : kvs[i]? = some kv) (ho : kv.1 ≠ ot) (hn : lstL v kvs i ≠ []) : Lib.join (lstL v kvs (i + 1)) [44] = Lib.join (lstL v kvs i) [44] ++ [44] ++ kvL kv := by
  rw [lst_kv h ho, join_snoc hn]
theorem lst_len {v : List UInt8} {kvs : List KV} {i : Nat} {kv : KV} (h : kvs[i]? = some kv) (ho : kv.1 ≠ ot) : (lstL v kvs (i + 1)).length = (lstL v kvs i).length + 1 := by
  rw [lst_kv h ho, List.length_append]; rfl

end Go.Proofs.YtfnbkcdcdeojfaaDoor
