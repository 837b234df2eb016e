/- Layer 4 (ctx) in plain words: digits, parts of a text, keys and values, marks, states, all as lists of bytes. No program stands in this text. -/
import Derived.Lib.SplitLaws
import Derived.Lib.Join
import Derived.Lib.TrimByte
import Derived.Lib.Hide
set_option linter.unusedVariables false
set_option linter.unusedSimpArgs false
namespace Go.Cx

/-- A fact about one byte, out of all 256. -/
theorem byte_all {P : UInt8 → Prop} (h : ∀ n : Fin 256, P (UInt8.ofNat n.1)) (c : UInt8) : P c := by
  have h1 := h ⟨c.toNat, c.toNat_lt⟩
  simpa using h1

def digs : List UInt8 := [48, 49, 50, 51, 52, 53, 54, 55, 56, 57, 97, 98, 99, 100, 101, 102]

/-- The number of a digit. -/
def digN (c : UInt8) : Option Nat := if 48 ≤ c.toNat ∧ c.toNat ≤ 57 then some (c.toNat - 48) else if 97 ≤ c.toNat ∧ c.toNat ≤ 102 then some (c.toNat - 87) else none
def digI (c : UInt8) : Int := match digN c with
  | none => -1
  | some d => (d : Int)

theorem index_digs (c : UInt8) : Lib.indexByte digs c = digI c := byte_all (P := fun c => Lib.indexByte digs c = digI c) (by decide +kernel) c
theorem digN_lt {c : UInt8} {d : Nat} (h : digN c = some d) : d < 16 := by
  unfold digN at h
  split at h
  · cases h; omega
  · split at h
    · cases h; omega
    · cases h

def big : Nat := 18446744073709551616

def hexA : Nat → List UInt8 → Option Nat
  | n, [] => some n
  | n, c :: l => match digN c with
    | none => none
    | some d => hexA ((16 * n + d) % big) l
def hexL (l : List UInt8) : Option Nat := hexA 0 l
/-- What hex tells. -/
def hexV (l : List UInt8) : Nat := (hexL l).getD 0
def hexOk (l : List UInt8) : Bool := (hexL l).isSome

theorem hexA_lt : ∀ {l : List UInt8} {n m : Nat}, n < big → hexA n l = some m → m < big
  | [], n, m, h, e => by cases e; exact h
  | c :: l, n, m, h, e => by
    unfold hexA at e
    split at e
    · cases e
    · exact hexA_lt (Nat.mod_lt _ (by decide)) e
theorem hexV_lt (l : List UInt8) : hexV l < big := by
  unfold hexV
  cases h : hexL l with
  | none => decide
  | some m => exact hexA_lt (by decide) h
/-- Of few digits the number is small. -/
theorem hexA_small : ∀ {l : List UInt8} {n m k : Nat}, n < 16 ^ k → k + l.length ≤ 16 → hexA n l = some m → m < 16 ^ (k + l.length)
  | [], n, m, k, h, _, e => by cases e; simpa using h
  | c :: l, n, m, k, h, hk, e => by
    unfold hexA at e
    rw [List.length_cons] at hk
    split at e
    · cases e
    · rename_i d hd
      have hdl := digN_lt hd
      have h1 : 16 * n + d < 16 ^ (k + 1) := by rw [Nat.pow_succ]; omega
      have h2 : 16 ^ (k + 1) ≤ big := by
        have : 16 ^ (k + 1) ≤ 16 ^ 16 := Nat.pow_le_pow_right (by omega) (by omega)
        exact this
      rw [Nat.mod_eq_of_lt (by omega)] at e
      have h3 := hexA_small h1 (by omega) e
      rwa [List.length_cons, show k + (l.length + 1) = k + 1 + l.length by omega]
theorem hexV_small {l : List UInt8} (h : l.length ≤ 16) : hexV l < 16 ^ l.length := by
  unfold hexV
  cases h' : hexL l with
  | none => exact Nat.pow_pos (by omega)
  | some m =>
    have := hexA_small (k := 0) (by decide) (by omega) h'
    rwa [Nat.zero_add] at this

/-- A digit's sign. -/
def dig (d : Nat) : UInt8 := digs.getD d 0
theorem digN_dig {d : Nat} (h : d < 16) : digN (dig d) = some d := by
  have h1 : ∀ n : Fin 16, digN (dig n.1) = some n.1 := by decide
  exact h1 ⟨d, h⟩

/-- A number as so many digits. -/
def hexedL : Nat → Nat → List UInt8
  | _, 0 => []
  | n, k + 1 => hexedL (n / 16) k ++ [dig (n % 16)]
theorem hexedL_length : ∀ (n k : Nat), (hexedL n k).length = k
  | _, 0 => rfl
  | n, k + 1 => by unfold hexedL; rw [List.length_append, hexedL_length]; rfl
theorem hexA_append : ∀ (l r : List UInt8) (n : Nat), hexA n (l ++ r) = (hexA n l).bind fun m => hexA m r
  | [], _, _ => rfl
  | c :: l, r, n => by
    rw [List.cons_append, hexA, hexA]
    cases digN c with
    | none => rfl
    | some d => exact hexA_append l r _
theorem hexA_hexed : ∀ (k n : Nat), k ≤ 16 → hexA 0 (hexedL n k) = some (n % 16 ^ k)
  | 0, n, _ => by simp [hexedL, hexA, Nat.mod_one]
  | k + 1, n, h => by
    unfold hexedL
    rw [hexA_append, hexA_hexed k (n / 16) (by omega)]
    simp only [Option.bind_some, hexA, digN_dig (Nat.mod_lt n (by omega : 0 < 16))]
    have h1 : n % 16 ^ (k + 1) = 16 * (n / 16 % 16 ^ k) + n % 16 := by
      rw [Nat.pow_succ, Nat.mul_comm (16 ^ k) 16, Nat.mod_mul]; omega
    have h2 : n % 16 ^ (k + 1) < big := Nat.lt_of_lt_of_le (Nat.mod_lt _ (Nat.pow_pos (by omega))) (Nat.pow_le_pow_right (by omega) h : 16 ^ (k + 1) ≤ 16 ^ 16)
    rw [← h1, Nat.mod_eq_of_lt h2]
theorem hexL_hexed {k n : Nat} (h : k ≤ 16) (hn : n < 16 ^ k) : hexL (hexedL n k) = some n := by
  unfold hexL
  rw [hexA_hexed k n h, Nat.mod_eq_of_lt hn]
/-- Digits, told back. -/
theorem dig_digN {c : UInt8} {d : Nat} (h : digN c = some d) : dig d = c := by
  have h1 : ∀ c : UInt8, ∀ d, digN c = some d → dig d = c := byte_all (P := fun c => ∀ d, digN c = some d → dig d = c) (by
    have h2 : ∀ n : Fin 256, ∀ d : Fin 16, digN (UInt8.ofNat n.1) = some d.1 → dig d.1 = UInt8.ofNat n.1 := by decide +kernel
    intro n d hd
    exact h2 n ⟨d, digN_lt hd⟩ hd)
  exact h1 c d h
theorem hexed_hexA : ∀ (l : List UInt8) (n m k : Nat), n < 16 ^ k → k + l.length ≤ 16 → hexA n l = some m → hexedL m (k + l.length) = hexedL n k ++ l
  | [], n, m, k, _, _, e => by cases e; simp
  | c :: l, n, m, k, h, hk, e => by
    unfold hexA at e
    rw [List.length_cons] at hk
    split at e
    · cases e
    · rename_i d hd
      have hdl := digN_lt hd
      have h1 : 16 * n + d < 16 ^ (k + 1) := by rw [Nat.pow_succ]; omega
      have h2 : 16 ^ (k + 1) ≤ big := (Nat.pow_le_pow_right (by omega) (by omega) : 16 ^ (k + 1) ≤ 16 ^ 16)
      rw [Nat.mod_eq_of_lt (by omega)] at e
      have h3 := hexed_hexA l _ m (k + 1) h1 (by omega) e
      rw [List.length_cons, show k + (l.length + 1) = k + 1 + l.length by omega, h3]
      rw [hexedL, show (16 * n + d) / 16 = n by omega, show (16 * n + d) % 16 = d by omega, dig_digN hd, List.append_assoc]
      rfl
theorem hexed_hexL {l : List UInt8} {m : Nat} (hl : l.length ≤ 16) (e : hexL l = some m) : hexedL m l.length = l := by
  have h := hexed_hexA l 0 m 0 (by decide) (by omega) e
  simpa [hexedL] using h

/-! Parts of a text. -/

def splitC (c : UInt8) : List UInt8 → List (List UInt8)
  | [] => [[]]
  | b :: l => if b = c then [] :: splitC c l else match splitC c l with
    | [] => [[b]]
    | p :: ps => (b :: p) :: ps
theorem splitC_ne (c : UInt8) : ∀ l, splitC c l ≠ []
  | [] => by simp [splitC]
  | b :: l => by
    unfold splitC
    split
    · simp
    · split <;> simp
theorem splitC_length (c : UInt8) : ∀ l, (splitC c l).length = l.count c + 1
  | [] => rfl
  | b :: l => by
    have ih := splitC_length c l
    unfold splitC
    by_cases h : b = c
    · rw [if_pos h, List.length_cons, ih, h, List.count_cons_self]
    · rw [if_neg h, List.count_cons_of_ne (by simpa using h)]
      have hne := splitC_ne c l
      cases hs : splitC c l with
      | nil => exact absurd hs hne
      | cons p ps => rw [hs] at ih; simpa using ih

theorem index_hd (c : UInt8) (l : List UInt8) : Lib.index (c :: l) [c] = 0 := by rw [Lib.index]; simp [List.isPrefixOf]
theorem index_tl {b c : UInt8} (h : b ≠ c) (l : List UInt8) : Lib.index (b :: l) [c] = if Lib.index l [c] == -1 then -1 else Lib.index l [c] + 1 := by
  have hp : ([c] : List UInt8).isPrefixOf (b :: l) = false := by simp [List.isPrefixOf, Ne.symm h]
  rw [Lib.index, hp]
  simp

theorem splitK_C (c : UInt8) : ∀ (k : Nat) (l : List UInt8), l.count c = k → Lib.splitK [c] 0 k l = splitC c l
  | k, [], h => by
    have h0 : k = 0 := by simpa using h.symm
    subst h0
    rfl
  | k, b :: l, h => by
    by_cases hb : b = c
    · subst hb
      rw [List.count_cons_self] at h
      obtain ⟨j, rfl⟩ : ∃ j, k = j + 1 := ⟨k - 1, by omega⟩
      have ih := splitK_C b j l (by omega)
      unfold Lib.splitK splitC
      rw [index_hd, if_pos rfl]
      simp [ih]
    · rw [List.count_cons_of_ne (by simpa using hb)] at h
      have ih := splitK_C c k l h
      unfold splitC
      rw [if_neg hb, ← ih]
      cases k with
      | zero => rfl
      | succ k =>
        unfold Lib.splitK
        rw [index_tl hb]
        by_cases hm : Lib.index l [c] = -1
        · simp [hm]
        · have hge := Lib.index_ge l [c]
          obtain ⟨j, hj⟩ : ∃ j : Nat, Lib.index l [c] = j := ⟨(Lib.index l [c]).toNat, by omega⟩
          have hne : ¬ ((j : Int) = -1) := by omega
          have hne2 : ¬ ((j : Int) + 1 = -1) := by omega
          have ht : ((j : Int) + 1).toNat = j + 1 := by omega
          simp [hj, hne, hne2, ht]
theorem split_C (c : UInt8) (l : List UInt8) : Lib.splitK [c] 0 (Lib.count l [c]) l = splitC c l := splitK_C c _ l (Lib.count_one c l).symm

def partsC (c : UInt8) (l : List UInt8) : List (List UInt8) := if l = [] then [] else splitC c l

def cutC (c : UInt8) : List UInt8 → List UInt8 × List UInt8 × Bool
  | [] => ([], [], false)
  | b :: l => if b = c then ([], l, true) else (b :: (cutC c l).1, (cutC c l).2.1, (cutC c l).2.2)
theorem cut_C (c : UInt8) : ∀ l, Lib.cut l [c] = cutC c l
  | [] => by simp [Lib.cut, Lib.index, cutC]
  | b :: l => by
    have ih := cut_C c l
    by_cases hb : b = c
    · subst hb
      unfold Lib.cut cutC
      rw [index_hd]
      simp
    · unfold cutC
      rw [if_neg hb, ← ih]
      unfold Lib.cut
      rw [index_tl hb]
      by_cases hm : Lib.index l [c] = -1
      · simp [hm]
      · have hge := Lib.index_ge l [c]
        obtain ⟨j, hj⟩ : ∃ j : Nat, Lib.index l [c] = j := ⟨(Lib.index l [c]).toNat, by omega⟩
        have hne : ¬ ((j : Int) = -1) := by omega
        have h0 : (0 : Int) ≤ (j : Int) := by omega
        have h1 : (0 : Int) ≤ (j : Int) + 1 := by omega
        have ht : ((j : Int) + 1).toNat = j + 1 := by omega
        simp [hj, hne, h0, h1, ht]
theorem cutC_len (c : UInt8) : ∀ l, (cutC c l).1.length ≤ l.length ∧ (cutC c l).2.1.length ≤ l.length
  | [] => by simp [cutC]
  | b :: l => by
    have ih := cutC_len c l
    unfold cutC
    split
    · simp
    · simp only [List.length_cons]; omega
theorem splitC_len (c : UInt8) : ∀ l p, p ∈ splitC c l → p.length ≤ l.length
  | [], p, h => by simp [splitC] at h; simp [h]
  | b :: l, p, h => by
    have ih := splitC_len c l
    unfold splitC at h
    split at h
    · rcases List.mem_cons.1 h with rfl | h
      · simp
      · have := ih p h; rw [List.length_cons]; omega
    · split at h
      · simp at h; subst h; simp
      · rename_i q qs hq
        rcases List.mem_cons.1 h with rfl | h
        · have := ih q (by rw [hq]; simp); simp only [List.length_cons]; omega
        · have := ih p (by rw [hq]; simp [h]); rw [List.length_cons]; omega

/-! Keys and values. -/

def keyC (c : UInt8) : Bool := (decide (97 ≤ c.toNat) && decide (c.toNat ≤ 122)) || ((decide (48 ≤ c.toNat) && decide (c.toNat ≤ 57)) || [95, 45, 42, 47, 64].contains c)
def keyOk (l : List UInt8) : Bool := l.all keyC && (decide (1 ≤ l.length) && decide (l.length ≤ 60))
def valC (c : UInt8) : Bool := decide (33 ≤ c.toNat) && (decide (c.toNat ≤ 126) && (c != 44 && c != 61))
def valOk (l : List UInt8) : Bool := l.all valC && (decide (1 ≤ l.length) && decide (l.length ≤ 200))

/-! Marks. -/

structure Mk where
  hasT : Bool
  t : Nat
  hasR : Bool
  r : Nat
deriving DecidableEq
def Mk.none : Mk := ⟨false, 0, false, 0⟩

def thr (v : List UInt8) : Option Nat := if 1 ≤ v.length ∧ v.length ≤ 14 then (hexL v).map (· * 16 ^ (14 - v.length)) else Option.none
def drawn (v : List UInt8) : Option Nat := if v.length = 14 then hexL v else Option.none

def markOne (m : Mk) (p : List UInt8) : Option Mk :=
  if (cutC 58 p).2.2 = false then Option.none
  else if (cutC 58 p).1 = [116, 104] then (if m.hasT then Option.none else (thr (cutC 58 p).2.1).map fun n => { m with hasT := true, t := n })
  else if (cutC 58 p).1 = [114, 118] then (if m.hasR then Option.none else (drawn (cutC 58 p).2.1).map fun n => { m with hasR := true, r := n })
  else some m
def marksA : Mk → List (List UInt8) → Option Mk
  | m, [] => some m
  | m, p :: ps => (markOne m p).bind fun m' => marksA m' ps
def marksL (v : List UInt8) : Option Mk := marksA Mk.none (splitC 59 v)

/-! States. -/

abbrev KV := List UInt8 × List UInt8
/-- The member of a part; none: it is wrong. -/
def memOne (seen : List (List UInt8)) (p : List UInt8) : Option KV :=
  if (cutC 61 p).2.2 && (keyOk (cutC 61 p).1 && (valOk (cutC 61 p).2.1 && !seen.contains (cutC 61 p).1)) then some ((cutC 61 p).1, (cutC 61 p).2.1) else Option.none
/-- The members up to the first that is wrong, and whether one is. -/
def membs (seen : List (List UInt8)) : List (List UInt8) → List KV × Bool
  | [] => ([], false)
  | p :: ps => match memOne seen p with
    | Option.none => ([], true)
    | some kv => (kv :: (membs (kv.1 :: seen) ps).1, (membs (kv.1 :: seen) ps).2)

def ot : List UInt8 := [111, 116]
/-- What Read tells. -/
def readL (s : List UInt8) : Mk × Nat :=
  if 512 < s.length ∨ 32 < (partsC 44 s).length then (Mk.none, 3)
  else if (membs [] (partsC 44 s)).2 then (Mk.none, 31)
  else match (membs [] (partsC 44 s)).1.find? (fun kv => kv.1 = ot) with
    | Option.none => (Mk.none, 0)
    | some kv => match marksL kv.2 with
      | Option.none => (Mk.none, 31)
      | some m => (m, 0)

def shortL (n : Nat) : List UInt8 := if Lib.trimRightB (hexedL n 14) 48 = [] then [48] else Lib.trimRightB (hexedL n 14) 48
/-- Marks as a value. -/
def writtenL (m : Mk) : List UInt8 := Lib.join ((if m.hasT then [[116, 104, 58] ++ shortL m.t] else []) ++ (if m.hasR then [[114, 118, 58] ++ hexedL m.r 14] else [])) [59]
def kvL (kv : KV) : List UInt8 := kv.1 ++ [61] ++ kv.2
def laidL (s : List UInt8) (m : Mk) : List (List UInt8) :=
  (if writtenL m = [] then [] else [ot ++ [61] ++ writtenL m]) ++ (((membs [] (partsC 44 s)).1.filter (fun kv => kv.1 ≠ ot)).map kvL)
def marksBad (m : Mk) : Bool := decide (72057594037927936 ≤ m.t) || (decide (72057594037927936 ≤ m.r) || ((!m.hasT && m.t != 0) || (!m.hasR && m.r != 0)))
/-- What With tells. -/
def withL (s : List UInt8) (m : Mk) : List UInt8 × Nat :=
  if (readL s).2 ≠ 0 then ([], (readL s).2)
  else if marksBad m then ([], 1)
  else if 512 < (Lib.join (laidL s m) [44]).length ∨ 32 < (laidL s m).length then ([], 3)
  else (Lib.join (laidL s m) [44], 0)

/-! Parents. -/

structure Pa where
  hi : Nat
  lo : Nat
  span : Nat
  flags : Nat
deriving DecidableEq
def Pa.none : Pa := ⟨0, 0, 0, 0⟩
def paOf (ps : List (List UInt8)) : Option Pa := match ps with
  | [a, b, c, d] =>
    if a = [48, 48] ∧ b.length = 32 ∧ c.length = 16 then
      match hexL (b.take 16), hexL (b.drop 16), hexL c, hexL d with
      | some h, some l, some s, some f => some ⟨h, l, s, f % 256⟩
      | _, _, _, _ => Option.none
    else Option.none
  | _ => Option.none
/-- What Parse tells. -/
def parseL (s : List UInt8) : Pa × Nat :=
  if s.length ≠ 55 then (Pa.none, 31)
  else match paOf (splitC 45 s) with
    | Option.none => (Pa.none, 31)
    | some p => if (p.hi = 0 ∧ p.lo = 0) ∨ p.span = 0 then (Pa.none, 1) else (p, 0)
def printL (p : Pa) : List UInt8 × Nat :=
  if (p.hi = 0 ∧ p.lo = 0) ∨ p.span = 0 then ([], 1)
  else ([48, 48] ++ [45] ++ hexedL p.hi 16 ++ hexedL p.lo 16 ++ [45] ++ hexedL p.span 16 ++ [45] ++ hexedL p.flags 2, 0)

end Go.Cx
