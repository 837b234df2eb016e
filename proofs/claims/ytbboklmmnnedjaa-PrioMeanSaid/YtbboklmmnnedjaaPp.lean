/- Heaps of offers in plain Lean (after the heap of timers, Hp): the order of offers, what lifting and lowering one does, and what the least one is. No program stands in this text. -/
import Derived.Test.YtbboklmmnnedjaaPa
set_option linter.unusedVariables false
set_option linter.unusedSimpArgs false
namespace Go.Pr

structure Of where
  w : Nat
  d : Nat
  p : Nat
deriving DecidableEq
/-- Is one above another one, by weight and draw? -/
def fr (a b : Of) : Prop := b.w * (a.d + 1) < a.w * (b.d + 1)
theorem fr_asymm {a b : Of} (h : fr a b) : ¬ fr b a := by unfold fr at *; omega
theorem fr_ntrans {a b c : Of} (h : ¬ fr a b) (k : ¬ fr b c) : ¬ fr a c := by
  unfold fr at *
  simp only [Nat.not_lt] at *
  have h1 : a.w * (b.d + 1) * (c.d + 1) ≤ b.w * (a.d + 1) * (c.d + 1) := Nat.mul_le_mul_right _ h
  have h2 : b.w * (c.d + 1) * (a.d + 1) ≤ c.w * (b.d + 1) * (a.d + 1) := Nat.mul_le_mul_right _ k
  have e1 : b.w * (a.d + 1) * (c.d + 1) = b.w * (c.d + 1) * (a.d + 1) := Nat.mul_right_comm _ _ _
  have h3 : a.w * (c.d + 1) * (b.d + 1) ≤ c.w * (a.d + 1) * (b.d + 1) := by
    rw [Nat.mul_right_comm a.w, Nat.mul_right_comm c.w]
    omega
  exact Nat.le_of_mul_le_mul_right h3 (by omega)
theorem fr_iff {a b : Of} : aboveN a.w a.d b.w b.d = true ↔ fr a b := by unfold aboveN fr; exact decide_eq_true_iff
/-- Is one kept ahead of another one? -/
def beats (a b : Of) : Bool := aboveN a.w a.d b.w b.d || (!aboveN b.w b.d a.w a.d && decide (a.p < b.p))
theorem beats_iff {a b : Of} : beats a b = true ↔ fr a b ∨ (¬ fr b a ∧ a.p < b.p) := by
  unfold beats
  rw [Bool.or_eq_true, Bool.and_eq_true, Bool.not_eq_true', fr_iff, decide_eq_true_iff, ← Bool.not_eq_true, fr_iff]
def le (a b : Of) : Prop := beats a b = false
theorem le_iff {a b : Of} : le a b ↔ ¬ fr a b ∧ (fr b a ∨ b.p ≤ a.p) := by
  unfold le
  rw [← Bool.not_eq_true, beats_iff]
  constructor
  · intro h
    refine ⟨fun k => h (.inl k), ?_⟩
    by_cases k : fr b a
    · exact .inl k
    · exact .inr (Nat.not_lt.1 (fun q => h (.inr ⟨k, q⟩)))
  · rintro ⟨h1, h2⟩ (k | ⟨k1, k2⟩)
    · exact h1 k
    · rcases h2 with h2 | h2
      · exact k1 h2
      · omega
/-- Is one lesser than another one? -/
def ltT (a b : Of) : Bool := beats b a
theorem le_refl (a : Of) : le a a := le_iff.2 ⟨fun h => fr_asymm h h, .inr (Nat.le_refl _)⟩
theorem le_trans {a b c : Of} (h : le a b) (k : le b c) : le a c := by
  rw [le_iff] at *
  refine ⟨fr_ntrans h.1 k.1, ?_⟩
  by_cases q : fr c a
  · exact .inl q
  · right
    have h2 : ¬ fr b a := fun e => fr_ntrans k.1 q e
    have k2 : ¬ fr c b := fun e => fr_ntrans q h.1 e
    rcases h.2 with e | e
    · exact absurd e h2
    · rcases k.2 with f | f
      · exact absurd f k2
      · omega
theorem not_lt {a b : Of} : ltT a b = false ↔ le b a := Iff.rfl
theorem lt_iff {a b : Of} : ltT a b = true ↔ ¬ le b a := by rw [← not_lt]; simp
theorem le_of_lt {a b : Of} (h : ltT a b = true) : le a b := by
  unfold ltT at h
  rw [beats_iff] at h
  rw [le_iff]
  rcases h with h | ⟨h1, h2⟩
  · exact ⟨fr_asymm h, .inl h⟩
  · exact ⟨h1, .inr (by omega)⟩
theorem lt_le_trans {a b c : Of} (h : ltT a b = true) (k : le b c) : ltT a c = true := by
  rw [lt_iff] at *
  exact fun e => h (le_trans k e)
theorem lt_trans {a b c : Of} (h : ltT a b = true) (k : ltT b c = true) : ltT a c = true := lt_le_trans h (le_of_lt k)
theorem ltT_total {a b : Of} (h : ltT a b = false) (hne : a.p ≠ b.p) : ltT b a = true := by
  rw [not_lt, le_iff] at h
  unfold ltT
  rw [beats_iff]
  rcases h with ⟨h1, h2 | h2⟩
  · exact .inl h2
  · by_cases q : fr a b
    · exact .inl q
    · exact .inr ⟨h1, by omega⟩

def HeapN (f : Nat → Of) (n : Nat) : Prop := ∀ k, 0 < k → k < n → le (f ((k - 1) / 2)) (f k)
structure UpI (f : Nat → Of) (n j : Nat) : Prop where
  others : ∀ k, 0 < k → k < n → k ≠ j → le (f ((k - 1) / 2)) (f k)
  below : ∀ k, 0 < k → k < n → (k - 1) / 2 = j → 0 < j → le (f ((j - 1) / 2)) (f k)
def swapF (f : Nat → Of) (i j : Nat) : Nat → Of := fun k => if k = j then f i else if k = i then f j else f k

theorem up_step {f : Nat → Of} {n j : Nat} (h : UpI f n j) (h0 : 0 < j) (hn : j < n) (hlt : ltT (f j) (f ((j - 1) / 2)) = true) : UpI (swapF f ((j - 1) / 2) j) n ((j - 1) / 2) := by
  have hji : (j - 1) / 2 ≠ j := by omega
  have hle := le_of_lt hlt
  constructor
  · intro k hk hkn hki
    unfold swapF
    by_cases hkj : k = j
    · subst hkj
      simp only [if_neg hji, if_true]
      exact hle
    · rw [if_neg hkj, if_neg hki]
      by_cases hpj : (k - 1) / 2 = j
      · rw [if_pos hpj]; exact h.below k hk hkn hpj h0
      · rw [if_neg hpj]
        by_cases hpi : (k - 1) / 2 = (j - 1) / 2
        · rw [if_pos hpi]
          have := h.others k hk hkn hkj
          rw [hpi] at this
          exact le_trans hle this
        · rw [if_neg hpi]; exact h.others k hk hkn hkj
  · intro k hk hkn hkp hi0
    unfold swapF
    have hgp : ((j - 1) / 2 - 1) / 2 ≠ j := by omega
    have hgi : ((j - 1) / 2 - 1) / 2 ≠ (j - 1) / 2 := by omega
    rw [if_neg hgp, if_neg hgi]
    have hpar := h.others ((j - 1) / 2) hi0 (by omega) hji
    by_cases hkj : k = j
    · rw [if_pos hkj]; exact hpar
    · have hki : k ≠ (j - 1) / 2 := by omega
      rw [if_neg hkj, if_neg hki]
      have := h.others k hk hkn hkj
      rw [hkp] at this
      exact le_trans hpar this

theorem up_stop {f : Nat → Of} {n j : Nat} (h : UpI f n j) (hs : j = 0 ∨ le (f ((j - 1) / 2)) (f j)) : HeapN f n := by
  intro k hk hkn
  by_cases hkj : k = j
  · subst hkj
    rcases hs with hs | hs
    · omega
    · exact hs
  · exact h.others k hk hkn hkj

structure DownI (f : Nat → Of) (n i i0 : Nat) : Prop where
  others : ∀ k, 0 < k → k < n → (k - 1) / 2 ≠ i → (k ≠ i ∨ i ≠ i0) → le (f ((k - 1) / 2)) (f k)
  below : ∀ k, 0 < k → k < n → (k - 1) / 2 = i → 0 < i → le (f ((i - 1) / 2)) (f k)

/-- c is a child of i that is least among its children, and less than i. -/
theorem down_step {f : Nat → Of} {n i i0 c : Nat} (h : DownI f n i i0) (hle : i0 ≤ i) (hc : (c - 1) / 2 = i) (hc0 : 0 < c) (hcn : c < n) (hlt : ltT (f c) (f i) = true)
    (hmin : ∀ k, 0 < k → k < n → (k - 1) / 2 = i → le (f c) (f k)) : DownI (swapF f i c) n c i0 := by
  have hic : i ≠ c := by omega
  constructor
  · intro k hk hkn hkp _
    unfold swapF
    by_cases hkc : k = c
    · subst hkc
      rw [if_pos rfl, if_neg (by omega), if_pos (by omega)]
      exact le_of_lt hlt
    · rw [if_neg hkc, if_neg hkp]
      by_cases hki : k = i
      · rw [if_pos hki]
        have hpi : (k - 1) / 2 ≠ i := by omega
        rw [if_neg hpi]
        have hcb := h.below c hc0 hcn hc (by omega)
        rw [hki]
        exact hcb
      · rw [if_neg hki]
        by_cases hpi : (k - 1) / 2 = i
        · rw [if_pos hpi]; exact hmin k hk hkn hpi
        · rw [if_neg hpi]; exact h.others k hk hkn hpi (.inl hki)
  · intro k hk hkn hkp _
    unfold swapF
    rw [if_neg (by omega), if_pos hc, if_neg (by omega), if_neg (by omega)]
    have := h.others k hk hkn (by omega) (.inl (by omega))
    rw [hkp] at this
    exact this

theorem down_stop {f : Nat → Of} {n i i0 : Nat} (h : DownI f n i i0) (hs : ∀ k, 0 < k → k < n → (k - 1) / 2 = i → le (f i) (f k)) :
    (i ≠ i0 → HeapN f n) ∧ (i = i0 → UpI f n i) := by
  constructor
  · intro hne k hk hkn
    by_cases hp : (k - 1) / 2 = i
    · rw [hp]; exact hs k hk hkn hp
    · exact h.others k hk hkn hp (.inr hne)
  · intro heq
    refine ⟨fun k hk hkn hki => ?_, h.below⟩
    by_cases hp : (k - 1) / 2 = i
    · rw [hp]; exact hs k hk hkn hp
    · exact h.others k hk hkn hp (.inl hki)

theorem heap_least {f : Nat → Of} {n : Nat} (h : HeapN f n) : ∀ k, k < n → le (f 0) (f k) := by
  intro k
  induction k using Nat.strongRecOn with
  | _ k ih =>
    intro hk
    rcases Nat.eq_zero_or_pos k with rfl | h0
    · exact le_refl _
    · exact le_trans (ih ((k - 1) / 2) (by omega) (by omega)) (h k h0 hk)

/-- A heap from which the last one is taken into place i is as 'down' wants it. -/
theorem down_start {f : Nat → Of} {n i : Nat} (h : HeapN f (n + 1)) (hi : i < n) : DownI (swapF f i n) n i i := by
  constructor
  · intro k hk hkn hkp hor
    rcases hor with hki | hne
    · unfold swapF
      rw [if_neg (by omega), if_neg hkp, if_neg (by omega), if_neg hki]
      exact h k hk (by omega)
    · exact absurd rfl hne
  · intro k hk hkn hkp hi0
    unfold swapF
    rw [if_neg (by omega), if_neg (by omega), if_neg (by omega), if_neg (by omega)]
    have h1 := h k hk (by omega)
    rw [hkp] at h1
    exact le_trans (h i hi0 (by omega)) h1

theorem up_start {f : Nat → Of} {n : Nat} (h : HeapN f n) : UpI f (n + 1) n :=
  ⟨fun k hk hkn hne => h k hk (by omega), fun k hk hkn hp _ => by omega⟩

def atL (L : List Of) (i : Nat) : Of := L.getD i ⟨0, 0, 0⟩
theorem atL_get {L : List Of} {i : Nat} {a : Of} (h : L[i]? = some a) : atL L i = a := by simp [atL, List.getD, h]
theorem get_atL {L : List Of} {i : Nat} (h : i < L.length) : L[i]? = some (atL L i) := by simp [atL, List.getD, List.getElem?_eq_getElem h]

def swapL (L : List Of) (i j : Nat) (a b : Of) : List Of := (L.set i b).set j a
theorem swapL_len (L : List Of) (i j : Nat) (a b : Of) : (swapL L i j a b).length = L.length := by simp [swapL]
theorem swapL_at {L : List Of} {i j : Nat} {a b : Of} (ha : L[i]? = some a) (hb : L[j]? = some b) (hij : i ≠ j) : atL (swapL L i j a b) = swapF (atL L) i j := by
  have hil := (List.getElem?_eq_some_iff.1 ha).1
  have hjl := (List.getElem?_eq_some_iff.1 hb).1
  funext k
  unfold swapF
  by_cases hkj : k = j
  · subst hkj
    rw [if_pos rfl, atL_get ha]
    exact atL_get (by unfold swapL; rw [List.getElem?_set_self (by simpa using hjl)])
  · rw [if_neg hkj]
    by_cases hki : k = i
    · subst hki
      rw [if_pos rfl, atL_get hb]
      exact atL_get (by unfold swapL; rw [List.getElem?_set_ne (fun h => hkj h.symm), List.getElem?_set_self hil])
    · rw [if_neg hki]
      unfold atL swapL
      rw [List.getD, List.getElem?_set_ne (fun h => hkj h.symm), List.getElem?_set_ne (fun h => hki h.symm)]
      rfl

theorem set_perm_erase {L : List Of} {i : Nat} {a b : Of} (ha : L[i]? = some a) : (a :: L.set i b).Perm (b :: L) := by
  induction L generalizing i with
  | nil => simp at ha
  | cons x L ih =>
    cases i with
    | zero =>
      simp only [List.getElem?_cons_zero, Option.some.injEq] at ha
      subst ha
      simpa using List.Perm.swap ..
    | succ i =>
      simp only [List.getElem?_cons_succ] at ha
      simp only [List.set_cons_succ]
      exact (List.Perm.swap ..).trans (((ih ha).cons x).trans (List.Perm.swap ..))

theorem swapL_perm {L : List Of} {i j : Nat} {a b : Of} (ha : L[i]? = some a) (hb : L[j]? = some b) (hij : i ≠ j) : (swapL L i j a b).Perm L := by
  have h1 := set_perm_erase (b := b) ha
  have hb' : (L.set i b)[j]? = some b := by rw [List.getElem?_set_ne hij]; exact hb
  have h2 := set_perm_erase (b := a) hb'
  -- b :: swapL ~ a :: L.set i b ~ b :: L
  exact (List.perm_cons b).1 (h2.trans h1)

/-! Timers in order, each number once. -/

def SortedT (S : List Of) : Prop := S.Pairwise (fun a b => ltT a b = true)
def insT (t : Of) : List Of → List Of
  | [] => [t]
  | a :: S => if ltT a t then a :: insT t S else t :: a :: S
theorem insT_perm (t : Of) : ∀ S : List Of, (insT t S).Perm (t :: S)
  | [] => List.Perm.refl _
  | a :: S => by
    unfold insT
    split
    · exact ((insT_perm t S).cons a).trans (List.Perm.swap ..)
    · exact List.Perm.refl _
theorem insT_length (t : Of) (S : List Of) : (insT t S).length = S.length + 1 := by rw [(insT_perm t S).length_eq]; rfl
theorem insT_sorted {t : Of} : ∀ {S : List Of}, SortedT S → (∀ a ∈ S, a.p ≠ t.p) → SortedT (insT t S)
  | [], _, _ => by simp [insT, SortedT]
  | a :: S, h, hne => by
    unfold insT
    have h' := List.pairwise_cons.1 h
    by_cases hlt : ltT a t = true
    · rw [if_pos hlt]
      refine List.pairwise_cons.2 ⟨fun b hb => ?_, insT_sorted h'.2 (fun b hb => hne b (by simp [hb]))⟩
      rcases List.mem_cons.1 ((insT_perm t S).mem_iff.1 hb) with rfl | hb
      · exact hlt
      · exact h'.1 b hb
    · have hl : ltT t a = true := ltT_total (by simpa using hlt) (hne a (by simp))
      rw [if_neg hlt]
      refine List.pairwise_cons.2 ⟨fun b hb => ?_, h⟩
      rcases List.mem_cons.1 hb with rfl | hb
      · exact hl
      · exact lt_trans hl (h'.1 b hb)
theorem ltT_irrefl (a : Of) : ltT a a = false := not_lt.2 (le_refl a)
theorem head_least {L S : List Of} {t : Of} (hp : L.Perm (t :: S)) (hs : SortedT (t :: S)) (hh : HeapN (atL L) L.length) : L[0]? = some t := by
  have hpos : 0 < L.length := by rw [hp.length_eq]; simp
  have h0 := get_atL hpos
  have hm : atL L 0 ∈ t :: S := hp.mem_iff.1 (List.mem_of_getElem? h0)
  rw [h0]
  congr 1
  rcases List.mem_cons.1 hm with h | h
  · exact h
  · exfalso
    have hlt := (List.pairwise_cons.1 hs).1 _ h
    have htL : t ∈ L := hp.mem_iff.2 (by simp)
    obtain ⟨k, hk, hkt⟩ := List.getElem_of_mem htL
    have hle := heap_least hh k hk
    have hka : atL L k = t := atL_get (by rw [List.getElem?_eq_getElem hk, hkt])
    rw [hka] at hle
    exact lt_iff.1 hlt hle
theorem SortedT.tail {t : Of} {S : List Of} (h : SortedT (t :: S)) : SortedT S := (List.pairwise_cons.1 h).2

end Go.Pr
