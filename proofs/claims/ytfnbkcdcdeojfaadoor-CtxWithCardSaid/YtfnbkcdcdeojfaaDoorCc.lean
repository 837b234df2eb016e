/- Layer 4 (ctx): the plain part of CtxOthers, CtxSmall, CtxLong. No program stands in this text. -/
import Derived.Test.YtfnbkcdcdeojfaaDoorCb
set_option linter.unusedVariables false
set_option linter.unusedSimpArgs false
namespace Go.Cx

/-! CtxLong. -/
def wordK (i : Nat) : List UInt8 := [107, UInt8.ofNat (97 + i % 26), UInt8.ofNat (97 + i / 26), 61, 49]
def textK (n : Nat) : List UInt8 := Lib.join ((List.range n).map wordK) [44]
def longL (n : Nat) : List UInt8 := [97, 61] ++ List.replicate n 120 ++ [44, 98, 61] ++ List.replicate 150 120 ++ [44, 99, 61] ++ List.replicate 200 120
theorem long_many : ∀ n : Fin 40, (readL (textK n.1)).2 = if n.1 ≤ 32 then 0 else 3 := by decide +kernel
theorem long_wide : ∀ n : Fin 150, (readL (longL (n.1 + 50))).2 = if (longL (n.1 + 50)).length ≤ 512 then 0 else 3 := by decide +kernel

/-! CtxSmall. -/
def smallP : List UInt8 := [48, 48, 45, 48, 49, 50, 51, 52, 53, 54, 55, 56, 57, 97, 98, 99, 100, 101, 102, 48, 49, 50, 51, 52, 53, 54, 55, 56, 57, 97, 98, 99, 100, 101, 102, 45, 48, 49, 50, 51, 52, 53, 54, 55, 56, 57, 97, 98, 99, 100, 101, 102, 45, 48, 49]
def smallW : List UInt8 := [65, 66, 67, 68, 69, 70, 103, 71]
theorem small_s : (parseL smallP).2 = 0 := by decide +kernel
theorem small_t : ∀ i : Fin 32, ∀ v : Fin 8, (parseL (smallP.take (3 + i.1) ++ [smallW.getD v.1 0] ++ smallP.drop (3 + i.1 + 1))).2 = 31 := by decide +kernel
theorem small_g : (parseL ([48, 49] ++ smallP.drop 2)).2 = 31 := by decide +kernel
theorem small_h : (parseL (smallP ++ [48])).2 = 31 := by decide +kernel

/-! CtxOthers. -/
def wordO (i : Nat) : List UInt8 := [107, UInt8.ofNat (97 + i), 61, UInt8.ofNat (49 + i)]
def wordsO (n : Nat) : List (List UInt8) := (List.range n).map wordO
def ownO (n : Nat) : List UInt8 := Lib.join (wordsO n) [44]
def textO (n : Nat) (b : Bool) : List UInt8 := (if decide (0 < n) && b then [111, 116, 61, 120, 58, 49, 44] else []) ++ ownO n
def tailO (n : Nat) : List UInt8 := if 0 < n then 44 :: ownO n else []
theorem others_none : ∀ n : Fin 9, ∀ b : Bool, withL (textO n.1 b) Mk.none = (ownO n.1, 0) := by decide +kernel
theorem others_facts : ∀ n : Fin 9, ∀ b : Bool, (readL (textO n.1 b)).2 = 0 ∧ ((membs [] (partsC 44 (textO n.1 b))).1.filter (fun kv => kv.1 ≠ ot)).map kvL = wordsO n.1 ∧ (ownO n.1).length ≤ 40 ∧ Lib.joinTail [44] (wordsO n.1) = tailO n.1 := by decide +kernel
theorem others_rv (n : Nat) (hn : n < 9) (b : Bool) (r : Nat) (hr : r < 16 ^ 14) : ∃ A, withL (textO n b) ⟨false, 0, true, r⟩ = (A ++ tailO n, 0) ∧ A.length = 20 := by
  obtain ⟨h1, h2, h3, h4⟩ := others_facts ⟨n, hn⟩ b
  simp only at h1 h2 h3 h4
  refine ⟨[111, 116, 61, 114, 118, 58] ++ hexedL r 14, ?_, by rw [List.length_append, hexedL_length]; rfl⟩
  have hw : writtenL ⟨false, 0, true, r⟩ = [114, 118, 58] ++ hexedL r 14 := by
    unfold writtenL
    simp only [Bool.false_eq_true, if_false, if_true, List.nil_append]
    exact Lib.join_one _ _
  have hl : laidL (textO n b) ⟨false, 0, true, r⟩ = ([111, 116, 61, 114, 118, 58] ++ hexedL r 14) :: wordsO n := by
    unfold laidL
    rw [h2, hw, if_neg (by simp)]
    rfl
  have hj : Lib.join (laidL (textO n b) ⟨false, 0, true, r⟩) [44] = [111, 116, 61, 114, 118, 58] ++ hexedL r 14 ++ tailO n := by
    rw [hl, Lib.join_cons, h4]
  have htl : (tailO n).length ≤ 41 := by
    unfold tailO
    split
    · rw [List.length_cons]; omega
    · simp
  unfold withL
  rw [if_neg (by rw [h1]; decide), if_neg (by
    unfold marksBad
    rw [p56]
    simp
    omega), hj, if_neg (by
    rw [hl]
    simp only [List.length_append, hexedL_length, List.length_cons, List.length_nil, wordsO, List.length_map, List.length_range]
    omega)]

/-! The chapter's example. -/
theorem known_read : readL [97, 61, 49, 44, 111, 116, 61, 116, 104, 58, 56, 59, 114, 118, 58, 48, 48, 48, 48, 48, 48, 48, 48, 48, 48, 48, 48, 48, 49] = (⟨true, 36028797018963968, true, 1⟩, 0) := by decide +kernel
theorem known_with : withL [97, 61, 49] ⟨true, 4503599627370496, false, 0⟩ = ([111, 116, 61, 116, 104, 58, 49, 44, 97, 61, 49], 0) := by decide +kernel
def knownP : List UInt8 := [48, 48, 45, 48, 48, 48, 48, 48, 48, 48, 48, 48, 48, 48, 48, 48, 48, 48, 49, 48, 48, 48, 48, 48, 48, 48, 48, 48, 48, 48, 48, 48, 48, 48, 50, 45, 48, 48, 48, 48, 48, 48, 48, 48, 48, 48, 48, 48, 48, 48, 48, 51, 45, 48, 49]
theorem known_parse : parseL knownP = (⟨1, 2, 3, 1⟩, 0) := by decide +kernel
theorem known_print : printL ⟨1, 2, 3, 1⟩ = (knownP, 0) := by decide +kernel

end Go.Cx
