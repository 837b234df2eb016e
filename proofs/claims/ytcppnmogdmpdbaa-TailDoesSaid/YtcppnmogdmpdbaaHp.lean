/- Heaps of timers in plain Lean: what lifting and lowering one timer does to the order, and what the least one is. No program stands in this text. -/
set_option linter.unusedVariables false
set_option linter.unusedSimpArgs false
namespace Go.Hp

abbrev Tm := Int × Int
def le (a b : Tm) : Prop := a.1 < b.1 ∨ a.1 = b.1 ∧ a.2 ≤ b.2
/-- Is a timer ahead of another one? -/
def ltT (a b : Tm) : Bool := decide (a.1 < b.1 ∨ a.1 = b.1 ∧ a.2 < b.2)
theorem le_refl (a : Tm) : le a a := .inr ⟨rfl, Int.le_refl _⟩
theorem le_trans {a b c : Tm} (h : le a b) (k : le b c) : le a c := by unfold le at *; omega
theorem not_lt {a b : Tm} : ltT a b = false ↔ le b a := by unfold ltT le; rw [decide_eq_false_iff_not]; omega
theorem lt_iff {a b : Tm} : ltT a b = true ↔ ¬ le b a := by rw [← not_lt]; simp
theorem le_of_lt {a b : Tm} (h : ltT a b = true) : le a b := by unfold ltT at h; have := of_decide_eq_true h; unfold le; omega
theorem lt_le_trans {a b c : Tm} (h : ltT a b = true) (k : le b c) : ltT a c = true := by
  unfold ltT at *; unfold le at k; have := of_decide_eq_true h; apply decide_eq_true; omega
theorem lt_trans {a b c : Tm} (h : ltT a b = true) (k : ltT b c = true) : ltT a c = true := lt_le_trans h (le_of_lt k)

def HeapN (f : Nat → Tm) (n : Nat) : Prop := ∀ k, 0 < k → k < n → le (f ((k - 1) / 2)) (f k)
structure UpI (f : Nat → Tm) (n j : Nat) : Prop where
  others : ∀ k, 0 < k → k < n → k ≠ j → le (f ((k - 1) / 2)) (f k)
  below : ∀ k, 0 < k → k < n → (k - 1) / 2 = j → 0 < j → le (f ((j - 1) / 2)) (f k)
def swapF (f : Nat → Tm) (i j : Nat) : Nat → Tm := fun k => if k = j then f i else if k = i then f j else f k

theorem up_step {f : Nat → Tm} {n j : Nat} (h : UpI f n j) (h0 : 0 < j) (hn : j < n) (hlt : ltT (f j) (f ((j - 1) / 2)) = true) : UpI (swapF f ((j - 1) / 2) j) n ((j - 1) / 2) := by
  have hji : (j - 1) / 2 ≠ j := by omega
  have hle := le_of_lt hlt
  constructor
  · intro k hk hkn hki
    unfold swapF
    by_cases hkj : k = j
    · subst hkj
      simp only [if_neg hji, if_true]
      exact hle
    · rw [if_neg hkj, if_neg hki]
      by_cases hpj : (k - 1) / 2 = j
      · rw [if_pos hpj]; exact h.below k hk hkn hpj h0
      · rw [if_neg hpj]
        by_cases hpi : (k - 1) / 2 = (j - 1) / 2
        · rw [if_pos hpi]
          have := h.others k hk hkn hkj
          rw [hpi] at this
          exact le_trans hle this
        · rw [if_neg hpi]; exact h.others k hk hkn hkj
  · intro k hk hkn hkp hi0
    unfold swapF
    have hgp : ((j - 1) / 2 - 1) / 2 ≠ j := by omega
    have hgi : ((j - 1) / 2 - 1) / 2 ≠ (j - 1) / 2 := by omega
    rw [if_neg hgp, if_neg hgi]
    have hpar := h.others ((j - 1) / 2) hi0 (by omega) hji
    by_cases hkj : k = j
    · rw [if_pos hkj]; exact hpar
    · have hki : k ≠ (j - 1) / 2 := by omega
      rw [if_neg hkj, if_neg hki]
      have := h.others k hk hkn hkj
      rw [hkp] at this
      exact le_trans hpar this

theorem up_stop {f : Nat → Tm} {n j : Nat} (h : UpI f n j) (hs : j = 0 ∨ le (f ((j - 1) / 2)) (f j)) : HeapN f n := by
  intro k hk hkn
  by_cases hkj : k = j
  · subst hkj
    rcases hs with hs | hs
    · omega
    · exact hs
  · exact h.others k hk hkn hkj

structure DownI (f : Nat → Tm) (n i i0 : Nat) : Prop where
  others : ∀ k, 0 < k → k < n → (k - 1) / 2 ≠ i → (k ≠ i ∨ i ≠ i0) → le (f ((k - 1) / 2)) (f k)
  below : ∀ k, 0 < k → k < n → (k - 1) / 2 = i → 0 < i → le (f ((i - 1) / 2)) (f k)

/-- c is a child of i that is least among its children, and less than i. -/
theorem down_step {f : Nat → Tm} {n i i0 c : Nat} (h : DownI f n i i0) (hle : i0 ≤ i) (hc : (c - 1) / 2 = i) (hc0 : 0 < c) (hcn : c < n) (hlt : ltT (f c) (f i) = true)
    (hmin : ∀ k, 0 < k → k < n → (k - 1) / 2 = i → le (f c) (f k)) : DownI (swapF f i c) n c i0 := by
  have hic : i ≠ c := by omega
  constructor
  · intro k hk hkn hkp _
    unfold swapF
    by_cases hkc : k = c
    · subst hkc
      rw [if_pos rfl, if_neg (by omega), if_pos (by omega)]
      exact le_of_lt hlt
    · rw [if_neg hkc, if_neg hkp]
      by_cases hki : k = i
      · rw [if_pos hki]
        have hpi : (k - 1) / 2 ≠ i := by omega
        rw [if_neg hpi]
        have hcb := h.below c hc0 hcn hc (by omega)
        rw [hki]
        exact hcb
      · rw [if_neg hki]
        by_cases hpi : (k - 1) / 2 = i
        · rw [if_pos hpi]; exact hmin k hk hkn hpi
        · rw [if_neg hpi]; exact h.others k hk hkn hpi (.inl hki)
  · intro k hk hkn hkp _
    unfold swapF
    rw [if_neg (by omega), if_pos hc, if_neg (by omega), if_neg (by omega)]
    have := h.others k hk hkn (by omega) (.inl (by omega))
    rw [hkp] at this
    exact this

theorem down_stop {f : Nat → Tm} {n i i0 : Nat} (h : DownI f n i i0) (hs : ∀ k, 0 < k → k < n → (k - 1) / 2 = i → le (f i) (f k)) :
    (i ≠ i0 → HeapN f n) ∧ (i = i0 → UpI f n i) := by
  constructor
  · intro hne k hk hkn
    by_cases hp : (k - 1) / 2 = i
    · rw [hp]; exact hs k hk hkn hp
    · exact h.others k hk hkn hp (.inr hne)
  · intro heq
    refine ⟨fun k hk hkn hki => ?_, h.below⟩
    by_cases hp : (k - 1) / 2 = i
    · rw [hp]; exact hs k hk hkn hp
    · exact h.others k hk hkn hp (.inl hki)

theorem heap_least {f : Nat → Tm} {n : Nat} (h : HeapN f n) : ∀ k, k < n → le (f 0) (f k) := by
  intro k
  induction k using Nat.strongRecOn with
  | _ k ih =>
    intro hk
    rcases Nat.eq_zero_or_pos k with rfl | h0
    · exact le_refl _
    · exact le_trans (ih ((k - 1) / 2) (by omega) (by omega)) (h k h0 hk)

/-- A heap from which the last one is taken into place i is as 'down' wants it. -/
theorem down_start {f : Nat → Tm} {n i : Nat} (h : HeapN f (n + 1)) (hi : i < n) : DownI (swapF f i n) n i i := by
  constructor
  · intro k hk hkn hkp hor
    rcases hor with hki | hne
    · unfold swapF
      rw [if_neg (by omega), if_neg hkp, if_neg (by omega), if_neg hki]
      exact h k hk (by omega)
    · exact absurd rfl hne
  · intro k hk hkn hkp hi0
    unfold swapF
    rw [if_neg (by omega), if_neg (by omega), if_neg (by omega), if_neg (by omega)]
    have h1 := h k hk (by omega)
    rw [hkp] at h1
    exact le_trans (h i hi0 (by omega)) h1

theorem up_start {f : Nat → Tm} {n : Nat} (h : HeapN f n) : UpI f (n + 1) n :=
  ⟨fun k hk hkn hne => h k hk (by omega), fun k hk hkn hp _ => by omega⟩

def atL (L : List Tm) (i : Nat) : Tm := L.getD i (0, 0)
theorem atL_get {L : List Tm} {i : Nat} {a : Tm} (h : L[i]? = some a) : atL L i = a := by simp [atL, List.getD, h]
theorem get_atL {L : List Tm} {i : Nat} (h : i < L.length) : L[i]? = some (atL L i) := by simp [atL, List.getD, List.getElem?_eq_getElem h]

def swapL (L : List Tm) (i j : Nat) (a b : Tm) : List Tm := (L.set i b).set j a
theorem swapL_len (L : List Tm) (i j : Nat) (a b : Tm) : (swapL L i j a b).length = L.length := by simp [swapL]
theorem swapL_at {L : List Tm} {i j : Nat} {a b : Tm} (ha : L[i]? = some a) (hb : L[j]? = some b) (hij : i ≠ j) : atL (swapL L i j a b) = swapF (atL L) i j := by
  have hil := (List.getElem?_eq_some_iff.1 ha).1
  have hjl := (List.getElem?_eq_some_iff.1 hb).1
  funext k
  unfold swapF
  by_cases hkj : k = j
  · subst hkj
    rw [if_pos rfl, atL_get ha]
    exact atL_get (by unfold swapL; rw [List.getElem?_set_self (by simpa using hjl)])
  · rw [if_neg hkj]
    by_cases hki : k = i
    · subst hki
      rw [if_pos rfl, atL_get hb]
      exact atL_get (by unfold swapL; rw [List.getElem?_set_ne (fun h => hkj h.symm), List.getElem?_set_self hil])
    · rw [if_neg hki]
      unfold atL swapL
      rw [List.getD, List.getElem?_set_ne (fun h => hkj h.symm), List.getElem?_set_ne (fun h => hki h.symm)]
      rfl

theorem set_perm_erase {L : List Tm} {i : Nat} {a b : Tm} (ha : L[i]? = some a) : (a :: L.set i b).Perm (b :: L) := by
  induction L generalizing i with
  | nil => simp at ha
  | cons x L ih =>
    cases i with
    | zero =>
      simp only [List.getElem?_cons_zero, Option.some.injEq] at ha
      subst ha
      simpa using List.Perm.swap ..
    | succ i =>
      simp only [List.getElem?_cons_succ] at ha
      simp only [List.set_cons_succ]
      exact (List.Perm.swap ..).trans (((ih ha).cons x).trans (List.Perm.swap ..))

theorem swapL_perm {L : List Tm} {i j : Nat} {a b : Tm} (ha : L[i]? = some a) (hb : L[j]? = some b) (hij : i ≠ j) : (swapL L i j a b).Perm L := by
  have h1 := set_perm_erase (b := b) ha
  have hb' : (L.set i b)[j]? = some b := by rw [List.getElem?_set_ne hij]; exact hb
  have h2 := set_perm_erase (b := a) hb'
  -- b :: swapL ~ a :: L.set i b ~ b :: L
  exact (List.perm_cons b).1 (h2.trans h1)

/-! Timers in order, each number once. -/

def SortedT (S : List Tm) : Prop := S.Pairwise (fun a b => ltT a b = true)
def insT (t : Tm) : List Tm → List Tm
  | [] => [t]
  | a :: S => if ltT a t then a :: insT t S else t :: a :: S
def dropT (no : Int) (S : List Tm) : List Tm := S.filter (fun a => a.2 != no)

theorem insT_perm (t : Tm) : ∀ S : List Tm, (insT t S).Perm (t :: S)
  | [] => List.Perm.refl _
  | a :: S => by
    unfold insT
    split
    · exact ((insT_perm t S).cons a).trans (List.Perm.swap ..)
    · exact List.Perm.refl _
theorem insT_length (t : Tm) (S : List Tm) : (insT t S).length = S.length + 1 := by rw [(insT_perm t S).length_eq]; rfl
theorem ltT_total {a b : Tm} (h : ltT a b = false) (hne : a.2 ≠ b.2) : ltT b a = true := by
  unfold ltT at *
  have := of_decide_eq_false h
  apply decide_eq_true
  omega
theorem insT_sorted {t : Tm} : ∀ {S : List Tm}, SortedT S → (∀ a ∈ S, a.2 ≠ t.2) → SortedT (insT t S)
  | [], _, _ => by simp [insT, SortedT]
  | a :: S, h, hne => by
    unfold insT
    have h' := List.pairwise_cons.1 h
    by_cases hlt : ltT a t = true
    · rw [if_pos hlt]
      refine List.pairwise_cons.2 ⟨fun b hb => ?_, insT_sorted h'.2 (fun b hb => hne b (by simp [hb]))⟩
      rcases List.mem_cons.1 ((insT_perm t S).mem_iff.1 hb) with rfl | hb
      · exact hlt
      · exact h'.1 b hb
    · have hl : ltT t a = true := ltT_total (by simpa using hlt) (hne a (by simp))
      rw [if_neg hlt]
      refine List.pairwise_cons.2 ⟨fun b hb => ?_, h⟩
      rcases List.mem_cons.1 hb with rfl | hb
      · exact hl
      · exact lt_trans hl (h'.1 b hb)
theorem ltT_irrefl (a : Tm) : ltT a a = false := not_lt.2 (le_refl a)
theorem head_least {L S : List Tm} {t : Tm} (hp : L.Perm (t :: S)) (hs : SortedT (t :: S)) (hh : HeapN (atL L) L.length) : L[0]? = some t := by
  have hpos : 0 < L.length := by rw [hp.length_eq]; simp
  have h0 := get_atL hpos
  have hm : atL L 0 ∈ t :: S := hp.mem_iff.1 (List.mem_of_getElem? h0)
  rw [h0]
  congr 1
  rcases List.mem_cons.1 hm with h | h
  · exact h
  · exfalso
    have hlt := (List.pairwise_cons.1 hs).1 _ h
    have htL : t ∈ L := hp.mem_iff.2 (by simp)
    obtain ⟨k, hk, hkt⟩ := List.getElem_of_mem htL
    have hle := heap_least hh k hk
    have hka : atL L k = t := atL_get (by rw [List.getElem?_eq_getElem hk, hkt])
    rw [hka] at hle
    exact lt_iff.1 hlt hle
theorem SortedT.tail {t : Tm} {S : List Tm} (h : SortedT (t :: S)) : SortedT S := (List.pairwise_cons.1 h).2
theorem SortedT.drop {S : List Tm} (h : SortedT S) (no : Int) : SortedT (dropT no S) := h.filter _
theorem perm_drop {S L : List Tm} {a : Tm} (hn : (S.map (·.2)).Nodup) (hp : (a :: L).Perm S) : L.Perm (dropT a.2 S) := by
  have hn2 : ((a :: L).map (·.2)).Nodup := (hp.map _).nodup_iff.2 hn
  have h1 : (dropT a.2 (a :: L)).Perm (dropT a.2 S) := hp.filter _
  have h2 : dropT a.2 (a :: L) = L := by
    unfold dropT
    rw [List.filter_cons_of_neg (by simp)]
    apply List.filter_eq_self.2
    intro b hb
    simp only [List.map_cons, List.nodup_cons] at hn2
    simp only [bne_iff_ne, ne_eq]
    intro he
    exact hn2.1 (he ▸ List.mem_map_of_mem hb)
  rwa [h2] at h1
theorem dropT_cons {t : Tm} {S : List Tm} (hn : ((t :: S).map (·.2)).Nodup) : dropT t.2 (t :: S) = S := by
  unfold dropT
  rw [List.filter_cons_of_neg (by simp)]
  apply List.filter_eq_self.2
  intro b hb
  simp only [List.map_cons, List.nodup_cons] at hn
  simp only [bne_iff_ne, ne_eq]
  intro he
  exact hn.1 (he ▸ List.mem_map_of_mem hb)

end Go.Hp
