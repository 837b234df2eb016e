/- What the document's answer for the numbers that came gives: plain laws on the printed functions. -/
import Derived.Test.YtaldaaihkpckoaaPDedupTakesx1
import Derived.Test.YtaldaaihkpckoaaPDedupTakesx2
import Derived.Test.YtaldaaihkpckoaaPDedupTakesx3
import Derived.Test.YtaldaaihkpckoaaPDedupTakesx4
import Derived.Test.YtaldaaihkpckoaaDe
namespace Go.Proofs.Ytaldaaihkpckoaa
open Go.RowKit Go.Mk Go.Dd Go.Proofs.Ytaldaaihkpckoaa.PDedupTakes Go.Proofs.YtaldaaihkpckoaaW.PrintWords Go.Proofs.YtaldaaihkpckoaaW.PrintLast Go.Proofs.YtaldaaihkpckoaaW.PrintMore
set_option linter.unusedVariables false
set_option linter.unusedSimpArgs false

theorem rd_at {L : List Int} {i : Nat} (h : i < L.length) : rd L (i : Int) = L[i] := by
  simp [rd, List.getD, h]
theorem w64 {i : Nat} (h : i ≤ 5000) : wrap64 ((i : Int) + 1) = ((i + 1 : Nat) : Int) := by
  unfold wrap64; omega

theorem has_l0 (x m : Int) (L : List Int) (hL : L.length ≤ 5000) : ∀ (k i : Nat), L.length - i < k → i ≤ L.length →
    telemeterref18_has.l0 k x i L m = some (decide (x ∈ L.drop i))
  | 0, _, h, _ => by omega
  | k + 1, i, h, hi => by
    unfold telemeterref18_has.l0
    by_cases hlt : i < L.length
    · rw [if_pos (by omega), if_pos (by omega), rd_at hlt, List.drop_eq_getElem_cons hlt]
      by_cases he : L[i] = x
      · rw [if_pos he]; simp [he]
      · rw [if_neg he, w64 (by omega), has_l0 x m L hL k (i + 1) (by omega) hlt]
        congr 1
        rw [decide_eq_decide, List.mem_cons]
        exact ⟨.inr, fun h => h.elim (fun h => absurd h.symm he) id⟩
    · rw [if_neg (by omega), List.drop_eq_nil_of_le (by omega)]
      simp
theorem has_f (x m : Int) (L : List Int) (hL : L.length ≤ 5000) {k : Nat} (hk : L.length < k) : telemeterref18_has.f k L m x = some (decide (x ∈ L)) := by
  unfold telemeterref18_has.f
  have := has_l0 x m L hL k 0 (by omega) (by omega)
  simpa using this

/-- All that came, rising. -/
def RL (n : Nat) (A : List Int) : List Int := (List.range n).map (fun i : Nat => (i : Int)) ++ A
theorem RL_len (n : Nat) (A : List Int) : (RL n A).length = n + A.length := by simp [RL]
theorem RL_mem {n : Nat} {A : List Int} {most : Nat} (h : Ok n A most) (j : Int) : j ∈ RL n A ↔ 0 ≤ j ∧ Came n A j := by
  unfold RL Came
  rw [List.mem_append, List.mem_map]
  constructor
  · rintro (⟨i, hi, rfl⟩ | hj)
    · have := List.mem_range.1 hi
      exact ⟨by omega, .inl (by omega)⟩
    · have := h.abv j hj
      exact ⟨by omega, .inr hj⟩
  · rintro ⟨h0, hj | hj⟩
    · exact .inl ⟨j.toNat, List.mem_range.2 (by omega), by omega⟩
    · exact .inr hj
theorem RL_srt {n : Nat} {A : List Int} {most : Nat} (h : Ok n A most) : (RL n A).Pairwise (· < ·) := by
  unfold RL
  rw [List.pairwise_append]
  refine ⟨?_, h.srt, fun a ha b hb => ?_⟩
  · rw [List.pairwise_map]
    exact List.pairwise_lt_range.imp (fun h => by omega)
  · obtain ⟨i, hi, rfl⟩ := List.mem_map.1 ha
    have := List.mem_range.1 hi
    have := h.abv b hb
    omega

theorem low_l0 (m : Int) {n : Nat} {A : List Int} {most : Nat} (hok : Ok n A most) (hL : n + A.length ≤ 2000) : ∀ (k i : Nat), (n - i) + (n + A.length) + 1 < k → i ≤ n →
    telemeterref18_Low.l0 k i (RL n A) m = some (n : Int)
  | 0, _, h, _ => by omega
  | k + 1, i, h, hi => by
    have hh : telemeterref18_has.f k (RL n A) m (i : Int) = some (decide ((i : Int) ∈ RL n A)) := has_f i m (RL n A) (by rw [RL_len]; omega) (by rw [RL_len]; omega)
    unfold telemeterref18_Low.l0
    rw [hh]
    by_cases hlt : i < n
    · have hm : (i : Int) ∈ RL n A := (RL_mem hok i).2 ⟨by omega, .inl (by omega)⟩
      rw [decide_eq_true hm]
      show telemeterref18_Low.l0 k (wrap64 ((i : Int) + 1)) (RL n A) m = _
      rw [w64 (by omega)]
      exact low_l0 m hok hL k (i + 1) (by omega) hlt
    · have hin : i = n := by omega
      subst hin
      have hm : ¬ (i : Int) ∈ RL i A := fun h => ((RL_mem hok i).1 h).2.elim (fun h => by omega) (fun h => by have := hok.abv i h; omega)
      rw [decide_eq_false hm]
      rfl
theorem low_f (m : Int) {n : Nat} {A : List Int} {most : Nat} (hok : Ok n A most) (hL : n + A.length ≤ 2000) {k : Nat} (hk : 5000 ≤ k) : telemeterref18_Low.f k (RL n A) m = some (n : Int) :=
  low_l0 m hok hL k 0 (by omega) (by omega)

theorem ahead_l0 (low m : Int) (L : List Int) (hL : L.length ≤ 2000) : ∀ (k i : Nat) (acc : List Int), L.length - i < k → i ≤ L.length → acc.length ≤ i →
    telemeterref18_Ahead.l0 k acc low i L m = some (acc ++ (L.drop i).filter (fun a => low < a))
  | 0, _, _, h, _, _ => by omega
  | k + 1, i, acc, h, hi, ha => by
    unfold telemeterref18_Ahead.l0
    by_cases hlt : i < L.length
    · rw [if_pos (by omega), if_pos (by omega), rd_at hlt, List.drop_eq_getElem_cons hlt, w64 (by omega)]
      by_cases hg : L[i] > low
      · rw [if_pos hg, if_pos (by omega), ahead_l0 low m L hL k (i + 1) _ (by omega) hlt (by rw [List.length_append, List.length_singleton]; omega), List.filter_cons_of_pos (by simpa using hg)]
        simp
      · rw [if_neg hg, ahead_l0 low m L hL k (i + 1) _ (by omega) hlt (by omega), List.filter_cons_of_neg (by simpa using hg)]
    · rw [if_neg (by omega), List.drop_eq_nil_of_le (by omega)]
      simp
theorem ahead_f (m : Int) {n : Nat} {A : List Int} {most : Nat} (hok : Ok n A most) (hL : n + A.length ≤ 2000) {k : Nat} (hk : 5000 ≤ k) : telemeterref18_Ahead.f k (RL n A) m = some A := by
  unfold telemeterref18_Ahead.f
  rw [low_f m hok hL hk]
  have h := ahead_l0 n m (RL n A) (by rw [RL_len]; exact hL) k 0 [] (by rw [RL_len]; omega) (by omega) (by simp)
  show telemeterref18_Ahead.l0 k [] (n : Int) 0 (RL n A) m = _
  rw [show ((0 : Nat) : Int) = 0 from rfl] at h
  rw [h, List.drop_zero, List.nil_append]
  congr 1
  unfold RL
  rw [List.filter_append, List.filter_eq_nil_iff.2, List.nil_append, List.filter_eq_self.2]
  · intro a ha; simpa using hok.abv a ha
  · intro a ha
    obtain ⟨i, hi, rfl⟩ := List.mem_map.1 ha
    have := List.mem_range.1 hi
    simp; omega

/-- One more, in its place. -/
def insO (x : Int) : List Int → List Int
  | [] => [x]
  | a :: L => if a < x then a :: insO x L else x :: a :: L
theorem insO_mem {x j : Int} : ∀ {L : List Int}, j ∈ insO x L ↔ j ∈ L ∨ j = x
  | [] => by simp [insO]
  | a :: L => by
    unfold insO
    split
    · rw [List.mem_cons, insO_mem, List.mem_cons]
      constructor
      · rintro (h | h | h)
        · exact .inl (.inl h)
        · exact .inl (.inr h)
        · exact .inr h
      · rintro ((h | h) | h)
        · exact .inl h
        · exact .inr (.inl h)
        · exact .inr (.inr h)
    · simp only [List.mem_cons]
      constructor
      · rintro (h | h | h)
        · exact .inr h
        · exact .inl (.inl h)
        · exact .inl (.inr h)
      · rintro ((h | h) | h)
        · exact .inr (.inl h)
        · exact .inr (.inr h)
        · exact .inl h
theorem insO_srt {x : Int} : ∀ {L : List Int}, L.Pairwise (· < ·) → x ∉ L → (insO x L).Pairwise (· < ·)
  | [], _, _ => by simp [insO]
  | a :: L, hs, hx => by
    have hs' := List.pairwise_cons.1 hs
    unfold insO
    split
    · refine List.pairwise_cons.2 ⟨fun y hy => ?_, insO_srt hs'.2 (fun hm => hx (List.mem_cons_of_mem _ hm))⟩
      rcases insO_mem.1 hy with h | rfl
      · exact hs'.1 y h
      · assumption
    · rename_i hn
      have hne : x ≠ a := fun he => hx (by simp [he])
      refine List.pairwise_cons.2 ⟨fun y hy => ?_, hs⟩
      rcases List.mem_cons.1 hy with rfl | hy
      · omega
      · have := hs'.1 y hy; omega
theorem srt_ext {L L' : List Int} (h : L.Pairwise (· < ·)) (h' : L'.Pairwise (· < ·)) (hm : ∀ j, j ∈ L ↔ j ∈ L') : L = L' := by
  have hp : L.Perm L' := (List.perm_ext_iff_of_nodup (h.imp (fun h => Int.ne_of_lt h)) (h'.imp (fun h => Int.ne_of_lt h))).2 hm
  exact hp.eq_of_pairwise (le := (· < ·)) (fun a b _ _ h1 h2 => by omega) h h'

theorem take_l0 (x m : Int) (L : List Int) (hL : L.length ≤ 2000) : ∀ (k i : Nat), L.length - i < k → i ≤ L.length →
    telemeterref18_Take.l0 k x (L.take i) i L m = some (L.take i ++ insO x (L.drop i), m, 1)
  | 0, _, h, _ => by omega
  | k + 1, i, h, hi => by
    have htl : (L.take i).length = i := by rw [List.length_take]; omega
    unfold telemeterref18_Take.l0
    by_cases hlt : i < L.length
    · rw [if_pos (by omega), if_pos (by omega), rd_at hlt, List.drop_eq_getElem_cons hlt]
      by_cases hx : L[i] < x
      · rw [if_pos hx, if_pos (by omega), w64 (by omega)]
        have ih := take_l0 x m L hL k (i + 1) (by omega) hlt
        rw [List.take_succ_eq_append_getElem hlt] at ih
        have hins : insO x (L[i] :: L.drop (i + 1)) = L[i] :: insO x (L.drop (i + 1)) := if_pos hx
        rw [ih, hins, List.append_assoc]
        rfl
      · rw [if_neg hx, if_pos (by omega)]
        simp only [Option.bind_some, Int.toNat_natCast]
        rw [if_pos (by omega), if_pos (by simp only [List.length_append, List.length_drop, htl, List.length_singleton]; omega)]
        have hins : insO x (L[i] :: L.drop (i + 1)) = x :: L[i] :: L.drop (i + 1) := if_neg hx
        rw [hins, List.append_assoc, List.drop_eq_getElem_cons hlt]
        rfl
    · rw [if_neg (by omega), if_pos (by omega)]
      simp only [Option.bind_some, Int.toNat_natCast]
      rw [if_pos (by omega), if_pos (by omega), if_pos (by simp only [List.length_append, List.length_drop, htl, List.length_singleton]; omega), List.drop_eq_nil_of_le (by omega)]
      simp [insO]

theorem take_f (x : Int) {n : Nat} {A : List Int} {most : Nat} (hok : Ok n A most) (hL : n + A.length ≤ 1000) {k : Nat} (hk : 6000 ≤ k) :
    telemeterref18_Take.f k (RL n A) most x = some (if told n A most x = 1 then insO x (RL n A) else RL n A, (most : Int), told n A most x) := by
  obtain ⟨k, rfl⟩ : ∃ j, k = j + 2 := ⟨k - 2, by omega⟩
  have hj1 : ∀ b : Bool, telemeterref18_Take.j1 (k + 1) x b (RL n A) most = if b = true then some (RL n A, (most : Int), 3) else some (insO x (RL n A), (most : Int), 1) := by
    intro b
    unfold telemeterref18_Take.j1
    cases b with
    | true => rfl
    | false =>
      have h := take_l0 x most (RL n A) (by rw [RL_len]; omega) k 0 (by rw [RL_len]; omega) (by omega)
      rw [List.take_zero, List.drop_zero] at h
      exact h
  have hj0 : telemeterref18_Take.j0 (k + 2) x false (RL n A) most = if (n : Int) < x ∧ most ≤ A.length then some (RL n A, (most : Int), 3) else some (insO x (RL n A), (most : Int), 1) := by
    have e : telemeterref18_Take.j0 (k + 2) x false (RL n A) most = (telemeterref18_Low.f (k + 1) (RL n A) most).bind fun t144 => (if x > t144 then (telemeterref18_Ahead.f (k + 1) (RL n A) most).bind fun t145 => telemeterref18_Take.j1 (k + 1) x (decide ((t145.length : Int) ≥ most)) (RL n A) most else telemeterref18_Take.j1 (k + 1) x false (RL n A) most) := rfl
    rw [e, low_f most hok (by omega) (by omega)]
    show (if x > (n : Int) then (telemeterref18_Ahead.f (k + 1) (RL n A) most).bind fun t145 => telemeterref18_Take.j1 (k + 1) x (decide ((t145.length : Int) ≥ most)) (RL n A) most else telemeterref18_Take.j1 (k + 1) x false (RL n A) most) = _
    by_cases hx : x > (n : Int)
    · rw [if_pos hx, ahead_f most hok (by omega) (by omega)]
      show telemeterref18_Take.j1 (k + 1) x (decide ((A.length : Int) ≥ most)) (RL n A) most = _
      rw [hj1]
      by_cases hm : most ≤ A.length
      · rw [decide_eq_true (by omega), if_pos rfl, if_pos ⟨hx, hm⟩]
      · rw [decide_eq_false (by omega), if_neg (by simp), if_neg (fun h => hm h.2)]
    · rw [if_neg hx, hj1, if_neg (by simp), if_neg (fun h => hx h.1)]
  have hjt : telemeterref18_Take.j0 (k + 2) x true (RL n A) most = some (RL n A, (most : Int), 2) := by
    unfold telemeterref18_Take.j0
    rfl
  unfold telemeterref18_Take.f
  by_cases hx : x < 0
  · have ht : told n A most x = 2 := told_came (.inl (by omega))
    rw [if_pos hx, ht, hjt, if_neg (by decide)]
  · rw [if_neg hx, has_f x most (RL n A) (by rw [RL_len]; omega) (by rw [RL_len]; omega)]
    show telemeterref18_Take.j0 (k + 2) x (decide (x ∈ RL n A)) (RL n A) most = _
    by_cases hc : Came n A x
    · have ht : told n A most x = 2 := told_came hc
      rw [decide_eq_true ((RL_mem hok x).2 ⟨by omega, hc⟩), ht, hjt, if_neg (by decide)]
    · rw [decide_eq_false (fun h => hc ((RL_mem hok x).1 h).2), hj0]
      by_cases hf : (n : Int) < x ∧ most ≤ A.length
      · rw [if_pos hf, told_full hc hf, if_neg (by decide)]
      · rw [if_neg hf, told_fresh hc hf, if_pos rfl]

/-- What the reference keeps is what the numbers are. -/
theorem take_next {x : Int} {n n' : Nat} {A A' : List Int} {most : Nat} (hok : Ok n A most) (h : NextS n A most x n' A') : (if told n A most x = 1 then insO x (RL n A) else RL n A) = RL n' A' := by
  by_cases ht : told n A most x = 1
  · rw [if_pos ht]
    have hc : ¬ Came n A x := fun hc => by rw [told_came hc] at ht; cases ht
    have hx : (n : Int) ≤ x := by
      have : ¬ x < (n : Int) := fun h => hc (.inl h)
      omega
    refine srt_ext (insO_srt (RL_srt hok) (fun hm => hc ((RL_mem hok x).1 hm).2)) (RL_srt h.ok) (fun j => ?_)
    rw [insO_mem, RL_mem hok, RL_mem h.ok, h.fresh ht j]
    constructor
    · rintro (⟨h1, h2⟩ | rfl)
      · exact ⟨h1, .inl h2⟩
      · exact ⟨by omega, .inr rfl⟩
    · rintro ⟨h1, h2 | h2⟩
      · exact .inl ⟨h1, h2⟩
      · exact .inr h2
  · obtain ⟨h1, h2⟩ := h.else' ht
    rw [if_neg ht, h2, Int.ofNat.inj h1]

theorem same_l0 (L : List Int) (hL : L.length ≤ 5000) : ∀ (k i : Nat), L.length - i < k → i ≤ L.length → telemeterlaw18_same.l0 k L L i = some true
  | 0, _, h, _ => by omega
  | k + 1, i, h, hi => by
    unfold telemeterlaw18_same.l0
    by_cases hlt : i < L.length
    · rw [if_pos (by omega), if_pos (by omega), if_pos (by omega), if_pos rfl, w64 (by omega)]
      exact same_l0 L hL k (i + 1) (by omega) hlt
    · rw [if_neg (by omega)]
theorem same_f (L : List Int) (hL : L.length ≤ 5000) {k : Nat} (hk : 5001 ≤ k) : telemeterlaw18_same.f k L L = some true := by
  unfold telemeterlaw18_same.f
  rw [if_pos rfl]
  exact same_l0 L hL k 0 (by omega) (by omega)

end Go.Proofs.Ytaldaaihkpckoaa
