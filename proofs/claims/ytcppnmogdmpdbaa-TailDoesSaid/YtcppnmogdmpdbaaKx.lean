/- TailKnows: the plain law: the last so many decisions are what is known. And what its rounds keep. -/
import Derived.Test.YtcppnmogdmpdbaaKw
import Derived.Test.YtcppnmogdmpdbaaKn
import Derived.Test.YtcppnmogdmpdbaaKq
set_option linter.unusedVariables false
set_option linter.unusedSimpArgs false
namespace Go.Proofs.Ytcppnmogdmpdbaa
open Go.RowKit Go.Mk Go.Hp
attribute [-go_sem] Builtin.append_

theorem less_app (t : Tr) (A B : List Dec) : lessK t (A ++ B) = lessK t A ++ lessK t B := by unfold lessK; rw [List.filter_append]
theorem less_ge {t : Tr} : ∀ {K : List Dec}, (K.map (·.1)).Nodup → K.length ≤ (lessK t K).length + 1
  | [], _ => by simp
  | p :: K, hn => by
    simp only [List.map_cons, List.nodup_cons] at hn
    have ih := less_ge (t := t) hn.2
    by_cases hp : p.1 = t
    · have h1 : lessK t (p :: K) = lessK t K := by unfold lessK; rw [List.filter_cons, if_neg (by simpa using hp)]
      have h2 : lessK t K = K := lessK_none (by rw [← hp]; exact hn.1)
      rw [h1, h2, List.length_cons]
      exact Nat.le_refl _
    · have h1 : lessK t (p :: K) = p :: lessK t K := by unfold lessK; rw [List.filter_cons, if_pos (by simpa using hp)]
      rw [h1, List.length_cons, List.length_cons]
      omega

/-- The last n. -/
def lastK (n : Nat) (L : List Dec) : List Dec := L.drop (L.length - n)

theorem deck_last {n : Nat} {L : List Dec} (hn : (L.map (·.1)).Nodup) (t : Tr) (kp : Bool) : decK t kp n (lastK n L) = lastK n (moreK t kp L) := by
  obtain ⟨F, hF⟩ : ∃ F, F = L.take (L.length - n) := ⟨_, rfl⟩
  obtain ⟨K, hK⟩ : ∃ K, K = L.drop (L.length - n) := ⟨_, rfl⟩
  have hL : L = F ++ K := by rw [hF, hK, List.take_append_drop]
  have hFl : F.length = L.length - n := by rw [hF, List.length_take]; omega
  have hKl : K.length = L.length - (L.length - n) := by rw [hK, List.length_drop]
  have hnK : (K.map (·.1)).Nodup := by
    rw [hL, List.map_append, List.nodup_append] at hn
    exact hn.2.1
  have h1 := less_ge (t := t) hnK
  have h2 := less_len t K
  have hM : moreK t kp L = lessK t F ++ moreK t kp K := by unfold moreK; rw [hL, less_app, List.append_assoc]
  have hMl : (moreK t kp K).length = (lessK t K).length + 1 := by unfold moreK; rw [List.length_append, List.length_singleton]
  have hd : decK t kp n K = (moreK t kp K).drop ((moreK t kp K).length - n) := by
    unfold decK
    by_cases hc : ((n : Nat) : Int) < ((moreK t kp K).length : Int)
    · rw [if_pos hc, show (moreK t kp K).length - n = 1 by omega, List.drop_one]
    · rw [if_neg hc, show (moreK t kp K).length - n = 0 by omega, List.drop_zero]
  have e : lastK n L = K := hK.symm
  rw [e, hd]
  unfold lastK
  rw [hM, List.length_append]
  by_cases hge : n ≤ (moreK t kp K).length
  · rw [show (lessK t F).length + (moreK t kp K).length - n = (lessK t F).length + ((moreK t kp K).length - n) by omega, ← List.drop_drop, List.drop_left]
  · have h0 : F = [] := List.eq_nil_of_length_eq_zero (by omega)
    subst h0
    simp [lessK]

theorem last_known {n i : Nat} {L : List Dec} {t : Tr} {kp : Bool} (hn : (L.map (·.1)).Nodup) (hi : L[i]? = some (t, kp)) : knownK (lastK n L) t = if L.length ≤ i + n then (kp, true) else (false, false) := by
  have hil := (List.getElem?_eq_some_iff.1 hi).1
  have hnK : ((lastK n L).map (·.1)).Nodup := hn.sublist (List.Sublist.map _ (List.drop_sublist _ _))
  by_cases h : L.length ≤ i + n
  · rw [if_pos h]
    have h1 : (lastK n L)[i - (L.length - n)]? = some (t, kp) := by
      unfold lastK
      rw [List.getElem?_drop, ← hi]
      congr 1
      omega
    unfold knownK
    rw [asc_get hnK h1]
  · rw [if_neg h]
    have h1 : asc (lastK n L) t = none := by
      rw [asc_none]
      intro hm
      obtain ⟨p, hp, hpt⟩ := List.mem_map.1 hm
      obtain ⟨j, hj⟩ := List.mem_iff_getElem?.1 hp
      unfold lastK at hj
      rw [List.getElem?_drop] at hj
      have e1 : (L.map (·.1))[i]? = some t := by rw [List.getElem?_map, hi]; rfl
      have e2 : (L.map (·.1))[L.length - n + j]? = some t := by rw [List.getElem?_map, hj]; exact congrArg some hpt
      obtain ⟨l1, e1⟩ := List.getElem?_eq_some_iff.1 e1
      obtain ⟨l2, e2⟩ := List.getElem?_eq_some_iff.1 e2
      exact List.pairwise_iff_getElem.1 (List.nodup_iff_pairwise_ne.1 hn) i (L.length - n + j) l1 l2 (by omega) (by rw [e1, e2])
    unfold knownK
    rw [h1]

/-- A deed. -/
structure De where
  x : Int
  y : Int
  z : Int
  u : Int
def encD (d : De) : List Value := [.int .u8 d.x, .int .u8 d.y, .int .u8 d.z, .int .u8 d.u]
structure DeOk (d : De) : Prop where
  x : 0 ≤ d.x ∧ d.x ≤ 255
  y : 0 ≤ d.y ∧ d.y ≤ 255
  z : 0 ≤ d.z ∧ d.z ≤ 255
  u : 0 ≤ d.u ∧ d.u ≤ 255
def De.tr (d : De) : Tr := (d.z / 5 % 2, d.z % 5 + 1)
def De.keep (d : De) : Bool := decide (d.u % 2 = 0)
def De.dec (d : De) : Dec := (d.tr, d.keep)
theorem of_tr (d : De) : (ofSp d.z d.u).tr = d.tr := rfl

/-- The newest deed of each trace. -/
def nextD (d : De) (L : List De) : List De := L.filter (fun e => decide (e.tr ≠ d.tr)) ++ [d]
theorem next_dec (d : De) (L : List De) : (nextD d L).map De.dec = moreK d.tr d.keep (L.map De.dec) := by
  unfold nextD moreK lessK
  rw [List.map_append, List.filter_map]
  rfl

theorem info_deed : ∃ i, Try.prog.info? 74 = some i ∧ i.zero = some (.agg #[.int .u8 0, .int .u8 0, .int .u8 0, .int .u8 0]) ∧ i.size = 4 ∧ i.bytes = 4 := by
  obtain ⟨i0, hi, hz0, hz1, hz2⟩ := info_parts (P := Try.prog) (e := 74) (z := .agg #[.int .u8 0, .int .u8 0, .int .u8 0, .int .u8 0]) (size := 4) (bytes := 4) (by kernel_rfl)
  exact ⟨i0, hi, hz0, hz1, hz2⟩

/-- One deed more at a row's end. -/
theorem deed_append {w : World} {L : List De} {sv : Value} (h : SliceIs w 74 4 (L.map encD) sv) (hl : L.length ≤ 900) (d : De) :
    ∃ g off cap' w', (Builtin.append_ #[72, 72] 72 #[sv, .slice (some ⟨w.heap.size, 0, none⟩) 1 1]).run Try.prog (w.alloc (.cells #[.int .u8 d.x, .int .u8 d.y, .int .u8 d.z, .int .u8 d.u] 74)) = .ok (.slice (some ⟨g, off, none⟩) (L.length + 1) cap') w' ∧
      SliceIs w' 74 4 ((L ++ [d]).map encD) (.slice (some ⟨g, off, none⟩) (L.length + 1) cap') ∧ Only (blockOf sv) w w' ∧ (g ∈ blockOf sv ∨ w.heap.size ≤ g) := by
  have oW : Only [] w (w.alloc (.cells #[.int .u8 d.x, .int .u8 d.y, .int .u8 d.z, .int .u8 d.u] 74)) := (Only.refl [] _).alloc _
  have hBn := heap_alloc_new w (.cells #[.int .u8 d.x, .int .u8 d.y, .int .u8 d.z, .int .u8 d.u] 74)
  obtain ⟨i0, hi0, hz0, hz1, hz2⟩ := info_deed
  obtain ⟨g, off, cap', w', hap, hrm, o6, hg⟩ := run_append_is (P := Try.prog) (t := 72) (ty := 72) (a := ⟨w.heap.size, 0, none⟩) (m := 1) (c := 1) (news := [encD d]) Try.underlying72 hi0 hz0 hz1 hz2 rfl
    (h.only oW (by simp)) rfl (by simp [encD]) (by
      intro j v hj
      have hadd : (⟨w.heap.size, 0, none⟩ : Addr).add j = ⟨w.heap.size, j, none⟩ := by unfold Addr.add; split <;> simp_all
      rw [hadd]
      refine (cell_of_blk hBn).trans ?_
      rw [show (#[Value.int .u8 d.x, .int .u8 d.y, .int .u8 d.z, .int .u8 d.u] : Array Value) = [Value.int .u8 d.x, .int .u8 d.y, .int .u8 d.z, .int .u8 d.u].toArray from rfl, List.getElem?_toArray]
      simpa [encD] using hj) (by simp [encD, Value.oneCell']) (by omega) (by simp only [List.length_map, maxLen]; omega) (by rw [List.length_map]; omega)
  rw [List.length_map] at hap
  refine ⟨g, off, cap', w', hap, ?_, (oW.mono (by simp)).trans o6, hg.imp id (fun h => Nat.le_trans oW.size h)⟩
  have h3 := SliceIs.row hrm
  rw [List.length_append, List.length_map, List.length_singleton] at h3
  rw [List.map_append]
  exact h3

/-- A deed of a row, in its cells. -/
theorem row_deed {w : World} {L : List De} {p : Option Addr} {n c j : Nat} {d : De} (h : SliceIs w 74 4 (L.map encD) (.slice p n c)) (hx : L[j]? = some d) :
    ∃ g off, p = some ⟨g, off, none⟩ ∧ g < w.heap.size ∧ w.cell? ⟨g, off + j * 4, none⟩ = some (.int .u8 d.x) ∧ w.cell? ⟨g, off + j * 4 + 1, none⟩ = some (.int .u8 d.y) ∧ w.cell? ⟨g, off + j * 4 + 2, none⟩ = some (.int .u8 d.z) ∧ w.cell? ⟨g, off + j * 4 + 3, none⟩ = some (.int .u8 d.u) := by
  generalize hX : L.map encD = Y at h
  generalize hV : Value.slice p n c = V at h
  cases h with
  | nil =>
    have h1 : L = [] := by simpa using hX
    subst h1
    cases hx
  | @row _ g off cap hr =>
    obtain ⟨h6, _, _⟩ := Value.slice.inj hV
    subst hX
    have hx' : (L.map encD)[j]? = some (encD d) := by rw [List.getElem?_map, hx]; rfl
    exact ⟨g, off, h6, hr.lt, hr.cell (f := 0) hx' rfl, hr.cell (f := 1) hx' rfl, hr.cell (f := 2) hx' rfl, hr.cell (f := 3) hx' rfl⟩

end Go.Proofs.Ytcppnmogdmpdbaa
