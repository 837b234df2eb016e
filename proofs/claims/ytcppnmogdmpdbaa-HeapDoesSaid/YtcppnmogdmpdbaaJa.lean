/- What the document's answer for the heap gives, on timers in order: plain laws on the printed functions. -/
import Derived.Test.YtcppnmogdmpdbaaPHeapDoesx4
import Derived.Test.YtcppnmogdmpdbaaIb
namespace Go.Proofs.Ytcppnmogdmpdbaa
open Go.RowKit Go.Mk Go.Hp Go.Proofs.Ytcppnmogdmpdbaa.PHeapDoes Go.Proofs.YtcppnmogdmpdbaaW.PrintWords Go.Proofs.YtcppnmogdmpdbaaW.PrintLast Go.Proofs.YtcppnmogdmpdbaaW.PrintMore
set_option linter.unusedVariables false
set_option linter.unusedSimpArgs false

def toS (t : Tm) : S30 := ⟨t.1, t.2⟩
def refL (S : List Tm) : List S30 := S.map toS
theorem refL_len (S : List Tm) : (refL S).length = S.length := by simp [refL]
theorem rd_at {S : List Tm} {i : Nat} (h : i < S.length) : rd_T30 (refL S) (i : Int) = toS S[i] := by
  simp [rd_T30, refL, List.getD, h]
theorem w64 {i : Nat} (h : i ≤ 5000) : wrap64 ((i : Int) + 1) = ((i + 1 : Nat) : Int) := by
  unfold wrap64; omega

/-- Where a number lies, or -1. -/
def posI (no : Int) : Nat → List Tm → Int
  | _, [] => -1
  | i, a :: S => if a.2 = no then i else posI no (i + 1) S
theorem posI_neg {no : Int} : ∀ (i : Nat) {S : List Tm}, hasT no S = false → posI no i S = -1
  | _, [], _ => rfl
  | i, a :: S, h => by
    simp only [hasT, List.any_cons, Bool.or_eq_false_iff] at h
    have hne : ¬ a.2 = no := by simpa using h.1
    unfold posI
    rw [if_neg hne]
    exact posI_neg (i + 1) h.2
theorem posI_ge {no : Int} : ∀ (i : Nat) {S : List Tm}, hasT no S = true → (i : Int) ≤ posI no i S ∧ posI no i S < i + S.length
  | _, [], h => by simp [hasT] at h
  | i, a :: S, h => by
    unfold posI
    split
    · simp; omega
    · rename_i hne
      simp only [hasT, List.any_cons, Bool.or_eq_true, beq_iff_eq] at h
      have := posI_ge (no := no) (i + 1) (S := S) (h.resolve_left hne)
      simp only [List.length_cons]
      omega
theorem posI_shift (no : Int) : ∀ (i : Nat) (S : List Tm), hasT no S = true → posI no i S = i + posI no 0 S
  | _, [], h => by simp [hasT] at h
  | i, a :: S, h => by
    unfold posI
    split
    · simp
    · rename_i hne
      simp only [hasT, List.any_cons, Bool.or_eq_true, beq_iff_eq] at h
      have h' := h.resolve_left hne
      rw [posI_shift no (i + 1) S h', posI_shift no (0 + 1) S h']
      omega
theorem posI_drop {no : Int} : ∀ {S : List Tm}, hasT no S = true → (S.map (·.2)).Nodup → S.take (posI no 0 S).toNat ++ S.drop ((posI no 0 S).toNat + 1) = dropT no S
  | [], h, _ => by simp [hasT] at h
  | a :: S, h, hn => by
    by_cases he : a.2 = no
    · subst he
      rw [dropT_cons hn]
      simp [posI]
    · simp only [hasT, List.any_cons, Bool.or_eq_true, beq_iff_eq] at h
      have h' := h.resolve_left he
      have ih := posI_drop h' (List.nodup_cons.1 (by simpa using hn)).2
      have hp : (posI no 0 (a :: S)).toNat = (posI no 0 S).toNat + 1 := by
        have := (posI_ge 0 h').1
        show (if a.2 = no then ((0 : Nat) : Int) else posI no (0 + 1) S).toNat = _
        rw [if_neg he, posI_shift no (0 + 1) S h']
        omega
      rw [hp]
      have hd : dropT no (a :: S) = a :: dropT no S := by
        unfold dropT
        rw [List.filter_cons_of_pos (by simpa using he)]
      rw [hd, List.take_succ_cons, List.drop_succ_cons, List.cons_append, ih]

theorem place_l0 (no most : Int) (S : List Tm) (hS : S.length ≤ 5000) : ∀ (k i : Nat), S.length - i < k → i ≤ S.length →
    telemeterref10_place.l0 k no i (refL S) most = some (posI no i (S.drop i))
  | 0, _, h, _ => by omega
  | k + 1, i, h, hi => by
    unfold telemeterref10_place.l0
    rw [refL_len]
    by_cases hlt : i < S.length
    · rw [if_pos (by omega), if_pos (by omega), rd_at hlt, List.drop_eq_getElem_cons hlt]
      show (if S[i].2 = no then _ else _) = some (if S[i].2 = no then _ else _)
      split
      · rfl
      · rw [w64 (by omega)]
        exact place_l0 no most S hS k (i + 1) (by omega) hlt
    · rw [if_neg (by omega), List.drop_eq_nil_of_le (by omega)]
      rfl
theorem place_f (no most : Int) (S : List Tm) (hS : S.length ≤ 5000) {k : Nat} (hk : 5001 ≤ k) : telemeterref10_place.f k (refL S) most no = some (posI no 0 S) := by
  unfold telemeterref10_place.f
  have := place_l0 no most S hS k 0 (by omega) (by omega)
  simpa using this

theorem less_f (a b : Tm) : telemeterref10_less.f a.1 a.2 b.1 b.2 = some (ltT a b) := by
  unfold telemeterref10_less.f ltT
  by_cases h : a.1 < b.1
  · simp [h]
  · by_cases h2 : a.1 = b.1
    · simp [h2]
    · simp [h, h2]
theorem ins_at (t : Tm) {S : List Tm} {i : Nat} (h : i < S.length) : insT t (S.drop i) = if ltT S[i] t then S[i] :: insT t (S.drop (i + 1)) else t :: S.drop i := by
  rw [List.drop_eq_getElem_cons h]
  rfl
theorem push_l0 (t : Tm) (most : Int) (S : List Tm) (hS : S.length ≤ 5000) : ∀ (k i : Nat), S.length - i < k → i ≤ S.length →
    telemeterref10_Push.l0 k i (refL S) most t.1 t.2 = some (refL (S.take i ++ insT t (S.drop i)), most, 0)
  | 0, _, h, _ => by omega
  | k + 1, i, h, hi => by
    have hend : ∀ X : List S30, X = refL (S.take i ++ t :: S.drop i) → (some (X, most, (0 : Int)) : Option _) = some (refL (S.take i ++ t :: S.drop i), most, 0) := fun X e => by rw [e]
    unfold telemeterref10_Push.l0
    rw [refL_len]
    by_cases hlt : i < S.length
    · rw [if_pos (by omega), if_pos (by omega), rd_at hlt, ins_at t hlt]
      show (telemeterref10_less.f S[i].1 S[i].2 t.1 t.2).bind _ = _
      rw [less_f]
      simp only [Option.bind_some]
      by_cases hl : ltT S[i] t = true
      · rw [if_pos hl, if_pos hl, w64 (by omega), push_l0 t most S hS k (i + 1) (by omega) hlt]
        have e : S.take (i + 1) = S.take i ++ [S[i]] := by rw [List.take_succ_eq_append_getElem hlt]
        rw [e, List.append_assoc]
        rfl
      · rw [if_neg hl, if_neg hl]
        have e : Int.toNat (i : Int) = i := by omega
        rw [if_pos (by omega)]
        simp only [Option.bind_some, e]
        rw [if_pos (by simp [refL_len]; omega), if_pos (by simp [refL_len]; omega), if_pos (by simp [refL_len]; omega)]
        exact hend _ (by simp [refL, toS])
    · have hie : i = S.length := by omega
      subst hie
      rw [if_neg (by omega), if_pos (by omega)]
      have e : Int.toNat (S.length : Int) = S.length := by omega
      rw [if_pos (by omega)]
      simp only [Option.bind_some, e]
      rw [if_pos (by simp [refL_len]; omega), if_pos (by simp [refL_len]; omega), if_pos (by simp [refL_len]; omega)]
      have et : (refL S).take S.length = refL S := List.take_of_length_le (by simp [refL_len])
      have ed : (refL S).drop S.length = [] := List.drop_eq_nil_of_le (by simp [refL_len])
      rw [et, ed]
      simp [refL, toS, insT]
theorem push_f (t : Tm) (most : Int) (S : List Tm) (hS : S.length ≤ 5000) {k : Nat} (hk : 5001 ≤ k) :
    telemeterref10_Push.f k (refL S) most t.1 t.2 = some (refL (if pushTold t S most = 0 then insT t S else S), most, pushTold t S most) := by
  unfold telemeterref10_Push.f
  rw [place_f _ _ S hS hk]
  simp only [Option.bind_some, refL_len]
  by_cases h : hasT t.2 S = true
  · have := (posI_ge 0 h).1
    rw [if_pos (by omega)]
    simp [pushTold, h]
  · have h' : hasT t.2 S = false := by simpa using h
    rw [posI_neg 0 h', if_neg (by omega)]
    by_cases hm : most ≤ S.length
    · rw [if_pos hm]
      simp [pushTold, h', hm]
    · rw [if_neg hm]
      have := push_l0 t most S hS k 0 (by omega) (by omega)
      simp only [List.take_zero, List.nil_append, List.drop_zero] at this
      rw [show ((0 : Int)) = ((0 : Nat) : Int) from rfl, this]
      simp [pushTold, h', hm]
theorem drop_f (no most : Int) (S : List Tm) (hS : S.length ≤ 5000) (hn : (S.map (·.2)).Nodup) {k : Nat} (hk : 5001 ≤ k) :
    telemeterref10_Drop.f k (refL S) most no = some (refL (dropT no S), most, hasT no S) := by
  unfold telemeterref10_Drop.f
  rw [place_f _ _ S hS hk]
  simp only [Option.bind_some, refL_len]
  by_cases h : hasT no S = true
  · have hg := posI_ge 0 h
    have hd := posI_drop h hn
    generalize posI no 0 S = q at hg hd
    obtain ⟨j, rfl⟩ := Int.eq_ofNat_of_zero_le (show 0 ≤ q by omega)
    have hj : j < S.length := by omega
    simp only [Int.toNat_natCast, Int.ofNat_eq_natCast] at hd ⊢
    rw [if_neg (by omega), if_pos (by omega), if_pos (by omega), if_pos (by simp [refL_len]; omega), w64 (by omega), if_pos (by omega), if_pos (by omega)]
    simp only [Int.toNat_natCast]
    rw [if_pos (by simp [refL_len]; omega), h, ← hd]
    simp [refL]
  · have h' : hasT no S = false := by simpa using h
    rw [posI_neg 0 h', if_pos (by omega), h']
    have : dropT no S = S := by
      unfold dropT
      apply List.filter_eq_self.2
      intro a ha
      simp only [hasT, List.any_eq_false] at h'
      simpa using h' a ha
    rw [this]
def firstT : List Tm → Int × Int × Bool
  | [] => (0, 0, false)
  | t :: _ => (t.1, t.2, true)
theorem first_f (most : Int) (S : List Tm) : telemeterref10_First.f (refL S) most = some (firstT S) := by
  unfold telemeterref10_First.f
  cases S with
  | nil => rfl
  | cons t S =>
    rw [refL_len, if_neg (by simp only [List.length_cons]; omega), if_pos (by simp only [List.length_cons]; omega)]
    rfl
theorem pop_f (most : Int) (S : List Tm) (hS : S.length ≤ 5000) (hn : (S.map (·.2)).Nodup) {k : Nat} (hk : 5001 ≤ k) :
    telemeterref10_Pop.f k (refL S) most = some (refL S.tail, most, firstT S) := by
  unfold telemeterref10_Pop.f
  rw [first_f]
  cases S with
  | nil => rfl
  | cons t S =>
    simp only [Option.bind_some, firstT, if_true]
    rw [drop_f _ _ _ hS hn hk, dropT_cons hn]
    rfl
theorem due_l0 (now most : Int) : ∀ (S : List Tm) (D : List Tm) (k : Nat), 5002 + S.length ≤ k → D.length + S.length ≤ 5000 → (S.map (·.2)).Nodup →
    telemeterref10_Due.l0 k now (refL D) (refL S) most = some (refL (restDue now S), most, refL (D ++ takeDue now S))
  | S, D, 0, h, _, _ => by omega
  | [], D, k + 1, _, _, _ => by
    unfold telemeterref10_Due.l0
    rw [if_neg (by simp [refL])]
    simp [restDue, takeDue]
  | t :: S, D, k + 1, hk, hl, hn => by
    simp only [List.length_cons] at hk hl
    unfold telemeterref10_Due.l0
    rw [refL_len, if_pos (by simp only [List.length_cons]; omega), if_pos (by simp only [List.length_cons]; omega)]
    show (if t.1 ≤ now then _ else _) = _
    by_cases h : t.1 ≤ now
    · rw [if_pos h, pop_f _ _ (by simp; omega) hn (by omega)]
      simp only [Option.bind_some, refL_len]
      rw [if_pos (by omega)]
      show telemeterref10_Due.l0 k now (refL D ++ [toS t]) (refL S) most = _
      rw [show refL D ++ [toS t] = refL (D ++ [t]) from by simp [refL], due_l0 now most S (D ++ [t]) k (by omega) (by simp; omega) (List.nodup_cons.1 (by simpa using hn)).2]
      simp [restDue, takeDue, h]
    · rw [if_neg h]
      simp [restDue, takeDue, h]
theorem due_f (now most : Int) (S : List Tm) (hS : S.length ≤ 5000) (hn : (S.map (·.2)).Nodup) {k : Nat} (hk : 10002 ≤ k) :
    telemeterref10_Due.f k (refL S) most now = some (refL (restDue now S), most, refL (takeDue now S)) := by
  unfold telemeterref10_Due.f
  have := due_l0 now most S [] k (by omega) (by simpa using hS) hn
  simpa [refL] using this
theorem same_l0 (S : List Tm) (hS : S.length ≤ 5000) : ∀ (k i : Nat), S.length - i < k → i ≤ S.length → telemeterref10_Same.l0 k (refL S) (refL S) i = some true
  | 0, _, h, _ => by omega
  | k + 1, i, h, hi => by
    unfold telemeterref10_Same.l0
    rw [refL_len]
    by_cases hlt : i < S.length
    · rw [if_pos (by omega), if_pos (by omega), if_pos (by omega), if_neg (by simp), w64 (by omega)]
      exact same_l0 S hS k (i + 1) (by omega) hlt
    · rw [if_neg (by omega)]
theorem same_f (S : List Tm) (hS : S.length ≤ 5000) {k : Nat} (hk : 5001 ≤ k) : telemeterref10_Same.f k (refL S) (refL S) = some true := by
  unfold telemeterref10_Same.f
  rw [if_pos rfl]
  exact same_l0 S hS k 0 (by omega) (by omega)
end Go.Proofs.Ytcppnmogdmpdbaa
