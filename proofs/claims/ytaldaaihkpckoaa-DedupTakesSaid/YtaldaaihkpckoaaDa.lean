/- The plain law of the numbers that came: the least that did not, and those ahead of it. No program stands in this text. -/
import Derived.Test.YtaldaaihkpckoaaMb
namespace Go.Dd

/-- The numbers ahead that follow the least without a gap are taken in. -/
def runL : Int → List Int → Int × List Int
  | lo, [] => (lo, [])
  | lo, a :: A => if a = lo then runL (lo + 1) A else (lo, a :: A)

def cntL (x : Int) (A : List Int) : Nat := A.countP (· < x)
def insI (x : Int) (A : List Int) : List Int := A.take (cntL x A) ++ x :: A.drop (cntL x A)

/-- Has k come? Whatever is below the least has. -/
def Came (lo : Int) (A : List Int) (k : Int) : Prop := k < lo ∨ k ∈ A
instance (lo : Int) (A : List Int) (k : Int) : Decidable (Came lo A k) := inferInstanceAs (Decidable (k < lo ∨ k ∈ A))

structure Ok (lo : Int) (A : List Int) (most : Nat) : Prop where
  lo0 : 0 ≤ lo
  srt : A.Pairwise (· < ·)
  abv : ∀ a ∈ A, lo < a
  cap : A.length ≤ most

/-- What Take tells of k. -/
def told (lo : Int) (A : List Int) (most : Nat) (k : Int) : Int := if Came lo A k then 2 else if lo < k ∧ most ≤ A.length then 3 else 1

theorem told_came {lo : Int} {A : List Int} {most : Nat} {k : Int} (h : Came lo A k) : told lo A most k = 2 := if_pos h
theorem told_full {lo : Int} {A : List Int} {most : Nat} {k : Int} (h : ¬ Came lo A k) (h2 : lo < k ∧ most ≤ A.length) : told lo A most k = 3 := by
  unfold told
  rw [if_neg h, if_pos h2]
theorem told_fresh {lo : Int} {A : List Int} {most : Nat} {k : Int} (h : ¬ Came lo A k) (h2 : ¬ (lo < k ∧ most ≤ A.length)) : told lo A most k = 1 := by
  unfold told
  rw [if_neg h, if_neg h2]

/-- What Take makes of the numbers. -/
structure NextS (lo : Int) (A : List Int) (most : Nat) (k : Int) (lo' : Int) (A' : List Int) : Prop where
  ok : Ok lo' A' most
  fresh : told lo A most k = 1 → ∀ j, Came lo' A' j ↔ Came lo A j ∨ j = k
  else' : told lo A most k ≠ 1 → lo' = lo ∧ A' = A
  sum : lo' + A'.length ≤ lo + A.length + 1
  ge : lo ≤ lo'

theorem runL_len : ∀ (A : List Int) (lo : Int), (runL lo A).1 + (runL lo A).2.length = lo + A.length ∧ lo ≤ (runL lo A).1 ∧ (runL lo A).2.length ≤ A.length
  | [], lo => by simp [runL]
  | a :: A, lo => by
    unfold runL
    by_cases h : a = lo
    · rw [if_pos h]
      have h2 := runL_len A (lo + 1)
      simp only [List.length_cons]
      refine ⟨?_, ?_, ?_⟩ <;> omega
    · rw [if_neg h]; exact ⟨rfl, Int.le_refl _, Nat.le_refl _⟩

theorem runL_came : ∀ (A : List Int) (lo : Int) (j : Int), A.Pairwise (· < ·) → (∀ a ∈ A, lo ≤ a) →
    (Came (runL lo A).1 (runL lo A).2 j ↔ Came lo A j) ∧ (∀ a ∈ (runL lo A).2, (runL lo A).1 < a) ∧ (runL lo A).2.Pairwise (· < ·)
  | [], lo, j, _, _ => by simp [runL]
  | a :: A, lo, j, hs, hl => by
    have hs' := List.pairwise_cons.1 hs
    unfold runL
    by_cases h : a = lo
    · rw [if_pos h]
      have h2 := runL_came A (lo + 1) j hs'.2 (fun x hx => by have := hs'.1 x hx; omega)
      refine ⟨h2.1.trans ?_, h2.2⟩
      unfold Came
      rw [List.mem_cons, ← h]
      constructor
      · rintro (h3 | h3)
        · rcases (show j < a ∨ j = a by omega) with h4 | h4
          · exact .inl h4
          · exact .inr (.inl h4)
        · exact .inr (.inr h3)
      · rintro (h3 | h3 | h3)
        · exact .inl (by omega)
        · exact .inl (by omega)
        · exact .inr h3
    · rw [if_neg h]
      refine ⟨Iff.rfl, fun x hx => ?_, hs⟩
      rcases List.mem_cons.1 hx with rfl | hx
      · have := hl x (by simp); omega
      · have h1 := hs'.1 x hx
        have := hl a (by simp)
        omega

theorem mem_insI {x y : Int} {A : List Int} : y ∈ insI x A ↔ y ∈ A ∨ y = x := by
  have h : y ∈ A ↔ y ∈ A.take (cntL x A) ++ A.drop (cntL x A) := by rw [List.take_append_drop]
  unfold insI
  rw [h, List.mem_append, List.mem_append, List.mem_cons]
  constructor
  · rintro (h | h | h)
    · exact .inl (.inl h)
    · exact .inr h
    · exact .inl (.inr h)
  · rintro ((h | h) | h)
    · exact .inl h
    · exact .inr (.inr h)
    · exact .inr (.inl h)

theorem cntL_le (x : Int) (A : List Int) : cntL x A ≤ A.length := List.countP_le_length

theorem insI_len (x : Int) (A : List Int) : (insI x A).length = A.length + 1 := by
  unfold insI
  have := cntL_le x A
  rw [List.length_append, List.length_cons, List.length_take, List.length_drop]
  omega

theorem cntL_zero {x : Int} {A : List Int} (h : ∀ a ∈ A, x ≤ a) : cntL x A = 0 := by
  unfold cntL
  rw [List.countP_eq_zero]
  intro a ha
  have := h a ha
  simp; omega

theorem insI_cons {x a : Int} {A : List Int} (h : a < x) : insI x (a :: A) = a :: insI x A := by
  unfold insI cntL
  rw [List.countP_cons_of_pos (by simpa using h)]
  rfl

theorem insI_sorted : ∀ {A : List Int} {x : Int}, A.Pairwise (· < ·) → x ∉ A → (insI x A).Pairwise (· < ·)
  | [], x, _, _ => by simp [insI]
  | a :: A, x, hs, hx => by
    have hs' := List.pairwise_cons.1 hs
    by_cases h : a < x
    · rw [insI_cons h]
      refine List.pairwise_cons.2 ⟨fun y hy => ?_, insI_sorted hs'.2 (fun hm => hx (List.mem_cons_of_mem _ hm))⟩
      rcases mem_insI.1 hy with h1 | h1
      · exact hs'.1 y h1
      · omega
    · have hax : x < a := by
        have : x ≠ a := fun he => hx (by simp [he])
        omega
      have h0 : cntL x (a :: A) = 0 := cntL_zero (fun y hy => by
        rcases List.mem_cons.1 hy with rfl | hy
        · omega
        · have := hs'.1 y hy; omega)
      unfold insI
      rw [h0]
      simp only [List.take_zero, List.nil_append, List.drop_zero]
      refine List.pairwise_cons.2 ⟨fun y hy => ?_, hs⟩
      rcases List.mem_cons.1 hy with rfl | hy
      · exact hax
      · have := hs'.1 y hy; omega

theorem next_same {lo : Int} {A : List Int} {most : Nat} {k : Int} (h : Ok lo A most) (ht : told lo A most k ≠ 1) : NextS lo A most k lo A :=
  ⟨h, fun h1 => absurd h1 ht, fun _ => ⟨rfl, rfl⟩, by omega, by omega⟩

theorem next_ins {lo : Int} {A : List Int} {most : Nat} {k : Int} (h : Ok lo A most) (h1 : lo < k) (h2 : k ∉ A) (h3 : A.length < most) : NextS lo A most k lo (insI k A) := by
  have hc : ∀ j, Came lo (insI k A) j ↔ Came lo A j ∨ j = k := fun j => by
    unfold Came; rw [mem_insI]; constructor
    · rintro (h | h | h)
      · exact .inl (.inl h)
      · exact .inl (.inr h)
      · exact .inr h
    · rintro ((h | h) | h)
      · exact .inl h
      · exact .inr (.inl h)
      · exact .inr (.inr h)
  refine ⟨⟨h.lo0, insI_sorted h.srt h2, fun a ha => ?_, by rw [insI_len]; omega⟩, fun _ => hc, fun ht => ?_, by rw [insI_len]; omega, by omega⟩
  · rcases mem_insI.1 ha with ha | ha
    · exact h.abv a ha
    · omega
  · exfalso; apply ht; unfold told
    have n1 : ¬ Came lo A k := fun hc => hc.elim (fun h4 => by omega) (fun h4 => h2 h4)
    have n2 : ¬ (lo < k ∧ most ≤ A.length) := by omega
    rw [if_neg n1, if_neg n2]

theorem next_run {lo : Int} {A : List Int} {most : Nat} {k : Int} (h : Ok lo A most) (h1 : k = lo) : NextS lo A most k (runL (lo + 1) A).1 (runL (lo + 1) A).2 := by
  subst h1
  have hl := runL_len A (k + 1)
  have hb : ∀ a ∈ A, k + 1 ≤ a := fun a ha => by have := h.abv a ha; omega
  have hr := fun j => runL_came A (k + 1) j h.srt hb
  have h0 := h.lo0
  have hcap := h.cap
  refine ⟨⟨by omega, (hr 0).2.2, (hr 0).2.1, by omega⟩, fun _ j => (hr j).1.trans ?_, fun ht => ?_, by omega, by omega⟩
  · unfold Came; constructor
    · rintro (h | h)
      · rcases (show j < k ∨ j = k by omega) with h4 | h4
        · exact .inl (.inl h4)
        · exact .inr h4
      · exact .inl (.inr h)
    · rintro ((h | h) | h)
      · exact .inl (by omega)
      · exact .inr h
      · exact .inl (by omega)
  · exfalso; apply ht; unfold told
    have n1 : ¬ Came k A k := fun hc => hc.elim (fun h4 => by omega) (fun h4 => by have := h.abv k h4; omega)
    have n2 : ¬ (k < k ∧ most ≤ A.length) := by omega
    rw [if_neg n1, if_neg n2]

/-- What came says what the numbers are. -/
theorem ok_eq {lo lo' : Int} {A A' : List Int} {most : Nat} (h : Ok lo A most) (h' : Ok lo' A' most) (hc : ∀ j, Came lo A j ↔ Came lo' A' j) : lo = lo' ∧ A = A' := by
  have n1 : ¬ Came lo A lo := by rintro (h1 | h1); omega; have := h.abv lo h1; omega
  have n2 : ¬ Came lo' A' lo' := by rintro (h1 | h1); omega; have := h'.abv lo' h1; omega
  have e : lo = lo' := by
    rcases Int.lt_trichotomy lo lo' with h1 | h1 | h1
    · exact absurd ((hc lo).2 (.inl h1)) n1
    · exact h1
    · exact absurd ((hc lo').1 (.inl h1)) n2
  subst e
  refine ⟨rfl, ?_⟩
  have hm : ∀ j, j ∈ A ↔ j ∈ A' := fun j => by
    constructor
    · intro hj
      rcases (hc j).1 (.inr hj) with h1 | h1
      · have := h.abv j hj; omega
      · exact h1
    · intro hj
      rcases (hc j).2 (.inr hj) with h1 | h1
      · have := h'.abv j hj; omega
      · exact h1
  have hp : A.Perm A' := by
    refine (List.perm_ext_iff_of_nodup ?_ ?_).2 hm
    · exact h.srt.imp (fun h1 => Int.ne_of_lt h1)
    · exact h'.srt.imp (fun h1 => Int.ne_of_lt h1)
  exact hp.eq_of_pairwise (le := (· < ·)) (fun a b _ _ h1 h2 => by omega) h.srt h'.srt

/-- A fresh one: the numbers are those that know just one more. -/
theorem next_is {lo : Int} {A : List Int} {most : Nat} {k lo' lo2 : Int} {A' A2 : List Int} (h : NextS lo A most k lo' A') (ht : told lo A most k = 1) (h2 : Ok lo2 A2 most) (hc : ∀ j, Came lo2 A2 j ↔ Came lo A j ∨ j = k) : lo' = lo2 ∧ A' = A2 :=
  ok_eq h.ok h2 (fun j => (h.fresh ht j).trans (hc j).symm)

theorem ok_nil {most : Nat} : Ok 0 [] most := ⟨Int.le_refl _, List.Pairwise.nil, by simp, by simp⟩

end Go.Dd
