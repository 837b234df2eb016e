/- Slices of int as lists of numbers: what BinarySearch, Clone and Insert do to them. -/
import Derived.Test.YtaldaaihkpckoaaDs
import Derived.Test.YtaldaaihkpckoaaDa
namespace Go.Proofs.Ytaldaaihkpckoaa
open Go.RowKit Go.Mk Go.Dd

def encI (x : Int) : List Value := [.int .i64 x]
abbrev IntsAre (w : World) (A : List Int) (sv : Value) : Prop := SliceIs w 3 1 (A.map encI) sv

theorem flat_enc : ∀ A : List Int, (A.map encI).flatten = A.map (Value.int .i64)
  | [] => rfl
  | a :: A => by rw [List.map_cons, List.flatten_cons, flat_enc A]; rfl

theorem wide_enc (A : List Int) : ∀ x ∈ A.map encI, x.length = 1 := by
  intro x hx
  obtain ⟨y, _, rfl⟩ := List.mem_map.1 hx
  rfl

theorem rowMem_ints {w : World} {e : TypeId} {A : List Int} {g off cap : Nat} {cur : Array Value} (hb : w.heap[g]? = some (.cells cur e (0, 0))) (hc : off + cap ≤ cur.size) (hl : A.length ≤ cap) (hm : cap ≤ maxLen)
    (hg : ∀ (i : Nat) (x : Int), A[i]? = some x → cur[off + i]? = some (.int .i64 x)) : RowMem w e 1 (A.map encI) g off cap := by
  refine ⟨wide_enc A, ⟨cur, hb, by omega, fun i x f v hx hf => ?_⟩, by simpa using hl, hm⟩
  rw [List.getElem?_map] at hx
  cases hA : A[i]? with
  | none => rw [hA] at hx; cases hx
  | some y =>
    rw [hA] at hx
    cases hx
    cases f with
    | zero =>
      cases hf
      rw [Nat.mul_one, Nat.add_zero]
      exact hg i y hA
    | succ f => simp [encI] at hf

theorem _root_.Go.Mk.RowMem.int {w : World} {e : TypeId} {A : List Int} {g off cap : Nat} (h : RowMem w e 1 (A.map encI) g off cap) {i : Nat} {x : Int} (hx : A[i]? = some x) : w.cell? ⟨g, off + i, none⟩ = some (.int .i64 x) := by
  have h1 := h.cell (i := i) (f := 0) (x := encI x) (v := .int .i64 x) (by rw [List.getElem?_map, hx]; rfl) rfl
  rw [Nat.mul_one, Nat.add_zero] at h1
  exact h1

/-- The row without its first. -/
theorem _root_.Go.Mk.RowMem.tail1 {w : World} {e : TypeId} {a : Int} {A : List Int} {g off cap : Nat} (h : RowMem w e 1 ((a :: A).map encI) g off cap) : RowMem w e 1 (A.map encI) g (off + 1) (cap - 1) := by
  have hf := h.fits
  have ht := h.top
  rw [List.length_map, List.length_cons] at hf
  obtain ⟨cur, hb, hc, hr⟩ := h.blk
  refine rowMem_ints hb (by omega) (by omega) (by omega) (fun i x hx => ?_)
  have h1 := hr (i + 1) (encI x) 0 (.int .i64 x) (by rw [List.getElem?_map, List.getElem?_cons_succ, hx]; rfl) rfl
  rw [← h1]; congr 1; omega

theorem IntsAre.ints {w : World} {A : List Int} {sv : Value} (h : IntsAre w A sv) : A = [] ∧ sv = .slice none 0 0 ∨ ∃ g off cap, sv = .slice (some ⟨g, off, none⟩) A.length cap ∧ RowMem w 3 1 (A.map encI) g off cap := by
  unfold IntsAre at h
  generalize hX : A.map encI = X at h
  cases h with
  | nil => exact .inl ⟨List.map_eq_nil_iff.1 hX, rfl⟩
  | @row _ g off cap hr =>
    subst hX
    rw [List.length_map]
    exact .inr ⟨g, off, cap, rfl, hr⟩

theorem IntsAre.mk {w : World} {A : List Int} {g off cap n : Nat} (h : RowMem w 3 1 (A.map encI) g off cap) (hn : A.length = n) : IntsAre w A (.slice (some ⟨g, off, none⟩) n cap) := by
  have h1 := SliceIs.row h
  rw [List.length_map, hn] at h1
  exact h1

theorem getD_get {A : List Int} {j : Nat} (h : j < A.length) : A[j]? = some (A.getD j 0) := by
  rw [List.getD_eq_getElem?_getD, List.getElem?_eq_getElem h]; rfl

theorem dd_search {w : World} {A : List Int} {sv : Value} (h : IntsAre w A sv) (hs : A.Pairwise (· < ·)) (hl : A.length ≤ 1000000) (x : Int) :
    Calls Try.prog 18 #[sv, .int .i64 x] w fun e w' => e = .returned (.tuple #[.int .i64 (cntL x A : Nat), .bool (A.contains x)]) ∧ ∃ q, w' = w.drewN q := by
  rcases h.ints with ⟨rfl, rfl⟩ | ⟨g, off, cap, rfl, hr⟩
  · have hc : Calls Try.prog 18 #[.slice none 0 0, .int .i64 x] w fun e w' => e = .returned (.tuple #[.int .i64 0, .bool false]) ∧ w' = w := Any.slices_BinarySearch_int_empty Try.laysSearch none 0 x w
    refine hc.mono ?_
    rintro e w' ⟨rfl, rfl⟩
    exact ⟨rfl, 0, rfl⟩
  · have hc : Calls Try.prog 18 #[.slice (some ⟨g, off, none⟩) A.length cap, .int .i64 x] w fun e w' => e = .returned (.tuple #[.int .i64 ((A.take A.length).countP (· < x) : Nat), .bool ((A.take A.length).contains x)]) ∧ ∃ q, w' = w.drewN q :=
      Any.slices_BinarySearch_int Try.laysSearch g off A.length cap A x w (Nat.le_refl _) (by omega) (fun j hj => hr.int (getD_get hj)) (by rw [List.take_length]; exact hs.imp (fun h => Int.le_of_lt h))
    rw [List.take_length] at hc
    exact hc

theorem rowMem_owns {w : World} {B : Nat} {v : Value} {A : List Int} (h : w.ownsRow B 3 1 v A.length (A.map (Value.int .i64))) : IntsAre w A v ∧ ∀ b ∈ blockOf v, B ≤ b := by
  rcases h.2 with ⟨rfl, h0⟩ | ⟨g, cap, cur, rfl, hg, hb, hn, hm, hs, ht⟩
  · rw [List.length_eq_zero_iff] at h0
    subst h0
    exact ⟨.nil, by simp [blockOf]⟩
  · refine ⟨IntsAre.mk (rowMem_ints hb (by omega) hn hm (fun i x hx => ?_)) rfl, by simpa [blockOf] using hg⟩
    have hi := (List.getElem?_eq_some_iff.1 hx).1
    have h1 : (A.map (Value.int .i64))[i]? = some (.int .i64 x) := by rw [List.getElem?_map, hx]; rfl
    rw [← ht, List.getElem?_take, if_pos (by omega), Array.getElem?_toList] at h1
    rw [Nat.zero_add]
    exact h1

theorem dd_clone {w : World} {A : List Int} {sv : Value} (h : IntsAre w A sv) (hl : A.length ≤ 1000000) :
    Calls Try.prog 20 #[sv] w fun e w' => ∃ rv, e = .returned rv ∧ IntsAre w' A rv ∧ Only [] w w' ∧ ∀ b ∈ blockOf rv, w.heap.size ≤ b := by
  rcases h.ints with ⟨rfl, rfl⟩ | ⟨g, off, cap, rfl, hr⟩
  · have hc : Calls Try.prog 20 #[.slice none 0 0] w fun e w' => e = .returned (.slice none 0 0) ∧ w' = w := Any.slices_Clone_int_nil Try.laysClone 0 0 w
    refine hc.mono ?_
    rintro e w' ⟨rfl, rfl⟩
    exact ⟨_, rfl, .nil, Only.refl _ _, by simp [blockOf]⟩
  · have hc : Calls Try.prog 20 #[.slice (some ⟨g, off, none⟩) A.length cap] w fun e w' => ∃ v', e = .returned v' ∧ w'.ownsRow w.heap.size 3 1 v' A.length ((A.take A.length).map (Value.int .i64)) ∧ v' ≠ .slice none 0 0 ∧ Below w.heap.size w w' :=
      Any.slices_Clone_int Try.laysClone g off A.length cap A w (Nat.le_refl _) (by omega) (fun j hj => hr.int (getD_get hj))
    rw [List.take_length] at hc
    refine hc.mono ?_
    rintro e w' ⟨v', rfl, ho, _, hB⟩
    obtain ⟨h1, h2⟩ := rowMem_owns ho
    exact ⟨_, rfl, h1, Only.ofBelow hB (Nat.le_refl _) _, h2⟩

theorem setCells_blk {b : Nat} {e : TypeId} {fr : Nat × Nat} : ∀ (vs : List Value) (o : Nat) (w : World) (cur : Array Value), w.heap[b]? = some (.cells cur e fr) → o + vs.length ≤ cur.size →
    ∃ cur' : Array Value, (w.setCells b o vs).heap[b]? = some (.cells cur' e fr) ∧ cur'.size = cur.size ∧ ∀ j, cur'[j]? = if o ≤ j ∧ j < o + vs.length then vs[j - o]? else cur[j]?
  | [], o, w, cur, h, _ => ⟨cur, h, rfl, fun j => by rw [if_neg (by simp only [List.length_nil]; omega)]⟩
  | v :: vs, o, w, cur, h, hf => by
    rw [List.length_cons] at hf
    obtain ⟨cur', h1, h2, h3⟩ := setCells_blk vs (o + 1) (w.setCell ⟨b, o, none⟩ v) _ (setCell_blk h) (by rw [Array.size_setIfInBounds]; omega)
    rw [Array.size_setIfInBounds] at h2
    refine ⟨cur', h1, h2, fun j => ?_⟩
    rw [h3 j, Array.getElem?_setIfInBounds, List.length_cons]
    by_cases hj : o = j
    · subst hj
      rw [if_neg (by omega), if_pos rfl, if_pos (by omega), if_pos (by omega), Nat.sub_self]; rfl
    · rw [if_neg hj]
      by_cases hi : o + 1 ≤ j ∧ j < o + 1 + vs.length
      · rw [if_pos hi, if_pos (by omega), show j - o = (j - (o + 1)) + 1 by omega, List.getElem?_cons_succ]
      · rw [if_neg hi, if_neg (by omega)]

theorem Only.setCells {S : List Nat} {a : World} {b : Nat} (hp : b ∈ S ∨ a.heap.size ≤ b) : ∀ (vs : List Value) (o : Nat) {w : World}, Only S a w → Only S a (w.setCells b o vs)
  | [], _, _, h => h
  | v :: vs, o, _, h => Only.setCells hp vs (o + 1) (h.setCell hp v)

theorem ins_get {A : List Int} {x : Int} {i : Nat} (hi : i ≤ A.length) (j : Nat) : (A.take i ++ x :: A.drop i)[j]? = if j < i then A[j]? else if j = i then some x else A[j - 1]? := by
  have htl : (A.take i).length = i := by rw [List.length_take]; omega
  by_cases h1 : j < i
  · rw [if_pos h1, List.getElem?_append_left (by omega), List.getElem?_take, if_pos h1]
  · rw [if_neg h1, List.getElem?_append_right (by omega), htl]
    by_cases h2 : j = i
    · subst h2; rw [if_pos rfl, Nat.sub_self]; rfl
    · rw [if_neg h2, show j - i = (j - 1 - i) + 1 by omega, List.getElem?_cons_succ, List.getElem?_drop]
      congr 1; omega

theorem ins_len {A : List Int} {x : Int} {i : Nat} (hi : i ≤ A.length) : (A.take i ++ x :: A.drop i).length = A.length + 1 := by
  rw [List.length_append, List.length_cons, List.length_take, List.length_drop]; omega

theorem one_ints (A : List Int) : ∀ v ∈ A.map (Value.int .i64), v.oneCell' = true := by
  intro v hv
  obtain ⟨y, _, rfl⟩ := List.mem_map.1 hv
  rfl

theorem map_get {A : List Int} {j : Nat} {v : Value} (h : (A.map (Value.int .i64))[j]? = some v) : ∃ x, A[j]? = some x ∧ v = .int .i64 x := by
  rw [List.getElem?_map] at h
  cases hA : A[j]? with
  | none => rw [hA] at h; cases h
  | some y => rw [hA] at h; cases h; exact ⟨y, rfl, rfl⟩

/-- Insert of one number, which lies in a block of its own. -/
theorem dd_insert {w : World} {A : List Int} {sv : Value} (h : IntsAre w A sv) (hl : A.length ≤ 1000000) {i : Nat} (hi : i ≤ A.length) {x : Int} {vb vc : Nat} {tA : TypeId} {c : Array Value} (hvb : w.heap[vb]? = some (.cells c tA (0, 0))) (hc : c[0]? = some (.int .i64 x)) (hne : vb ∉ blockOf sv) :
    Calls Try.prog 19 #[sv, .int .i64 i, .slice (some ⟨vb, 0, none⟩) 1 vc] w fun e w' => ∃ rv, e = .returned rv ∧ IntsAre w' (A.take i ++ x :: A.drop i) rv ∧ Only (blockOf sv) w w' ∧ ∀ b ∈ blockOf rv, b ∈ blockOf sv ∨ w.heap.size ≤ b := by
  have hvs : ∀ (j : Nat) (v : Value), [Value.int .i64 x][j]? = some v → w.cell? ⟨vb, 0 + j, none⟩ = some v := by
    intro j v hj
    cases j with
    | zero => cases hj; rw [cell_of_blk hvb]; exact hc
    | succ j => simp at hj
  have h1v : ∀ v ∈ [Value.int .i64 x], v.oneCell' = true := by intro v hv; rw [List.mem_singleton.1 hv]; rfl
  have grown : ∀ (old : Nat), i = A.length → (∀ b, sv = .slice b A.length old → True) →
      IntsAre (w.drew.alloc (.cells ((A.map (Value.int .i64) ++ [Value.int .i64 x]).toArray ++ Builtin.zeroCells (Value.int .i64 0).cells (grownCap w (A.length + 1) old 3 - (A.length + 1))) 3)) (A.take i ++ x :: A.drop i) (.slice (some ⟨w.heap.size, 0, none⟩) (A.length + 1) (grownCap w (A.length + 1) old 3)) := by
    intro old hiA _
    have hge := grownCap_ge w (A.length + 1) old 3
    refine IntsAre.mk (rowMem_ints (heap_alloc_new w.drew _) ?_ (by rw [ins_len hi]; exact hge) (grownCap_le_maxLen w (A.length + 1) old 3 (by unfold maxLen; omega)) (fun j y hj => ?_)) (ins_len hi)
    · simp only [Array.size_append, List.size_toArray, List.length_append, List.length_map, size_zeroCells, List.length_cons, List.length_nil]
      have : (Value.int IntKind.i64 0).cells.size = 1 := rfl
      rw [this]; omega
    · have hjl := (List.getElem?_eq_some_iff.1 hj).1
      rw [ins_len hi] at hjl
      rw [Nat.zero_add, Array.getElem?_append_left (by simp; omega), List.getElem?_toArray]
      rw [ins_get hi] at hj
      by_cases h1 : j < i
      · rw [if_pos h1] at hj
        rw [List.getElem?_append_left (by simp; omega), List.getElem?_map, hj]; rfl
      · rw [if_neg h1, if_pos (by omega)] at hj
        cases hj
        rw [List.getElem?_append_right (by simp; omega), show j - (A.map (Value.int .i64)).length = 0 by simp; omega]; rfl
  rcases h.ints with ⟨rfl, rfl⟩ | ⟨g, off, cap, rfl, hr⟩
  · have hi0 : i = 0 := by simpa using hi
    have hg := grown 0 hi0 (fun _ _ => trivial)
    subst hi0
    have hcl : Calls Try.prog 19 #[.slice none 0 0, .int .i64 (0 : Nat), .slice (some ⟨vb, 0, none⟩) 1 vc] w fun e w' =>
        e = .returned (.slice (some ⟨w.heap.size, 0, none⟩) (0 + 1) (grownCap w (0 + 1) 0 3)) ∧ w' = w.drew.alloc (.cells (([] ++ [Value.int .i64 x]).toArray ++ Builtin.zeroCells (Value.int .i64 0).cells (grownCap w (0 + 1) 0 3 - (0 + 1))) 3) :=
      Any2.slices_Insert_int_end_grow Try.laysInsert none 0 0 vb 0 1 vc [] [.int .i64 x] w (by omega) (by omega) (by omega) (by omega) rfl rfl (fun _ => rfl) (fun a ha => by cases ha) hvs h1v
    refine hcl.mono ?_
    rintro e w' ⟨rfl, rfl⟩
    exact ⟨_, rfl, hg, ((Only.refl _ _).drew).alloc _, fun b hb => .inr (by simp only [blockOf, List.mem_singleton] at hb; omega)⟩
  · simp only [blockOf, List.mem_singleton] at hne
    obtain ⟨cur, hb, hcs, hget⟩ := hr.blk
    have hfit := hr.fits
    have htop := hr.top
    rw [List.length_map] at hfit
    rw [Nat.mul_one] at hcs
    have hcell : ∀ (j : Nat) (v : Value), (A.map (Value.int .i64))[j]? = some v → w.cell? ⟨g, off + j, none⟩ = some v := by
      intro j v hj
      obtain ⟨y, hy, rfl⟩ := map_get hj
      exact hr.int hy
    have hsome : ∀ j, off + j < cur.size → (w.cell? ⟨g, off + j, none⟩).isSome = true := by
      intro j hj
      rw [cell_of_blk hb, Array.getElem?_eq_getElem hj]; rfl
    have hcur : ∀ (j : Nat) (y : Int), A[j]? = some y → cur[off + j]? = some (.int .i64 y) := by
      intro j y hy
      have h1 := hr.int hy
      rwa [cell_of_blk hb] at h1
    by_cases hroom : A.length + 1 ≤ cap
    · by_cases hend : i = A.length
      · subst hend
        have hcl : Calls Try.prog 19 #[.slice (some ⟨g, off, none⟩) A.length cap, .int .i64 A.length, .slice (some ⟨vb, 0, none⟩) 1 vc] w fun e w' =>
            e = .returned (.slice (some ⟨g, off, none⟩) (A.length + 1) cap) ∧ w' = w.setCells g (off + A.length) [.int .i64 x] :=
          Any2.slices_Insert_int_end_room Try.laysInsert g off A.length cap vb 0 1 vc [.int .i64 x] w (by omega) hroom (by unfold maxLen at htop; omega) rfl (fun j hj => by rw [Nat.add_assoc]; exact hsome _ (by omega)) (fun j _ => frozen_of_blk hb) hvs h1v
        refine hcl.mono ?_
        rintro e w' ⟨rfl, rfl⟩
        obtain ⟨cur', k1, k2, k3⟩ := setCells_blk [Value.int .i64 x] (off + A.length) w cur hb (by simp only [List.length_cons, List.length_nil]; omega)
        refine ⟨_, rfl, IntsAre.mk (rowMem_ints k1 (by omega) (by rw [ins_len hi]; omega) htop (fun j y hj => ?_)) (ins_len hi), Only.setCells (.inl (by simp [blockOf])) _ _ (Only.refl _ _), fun b hb => .inl hb⟩
        have hjl := (List.getElem?_eq_some_iff.1 hj).1
        rw [ins_len hi] at hjl
        rw [ins_get hi] at hj
        rw [k3]
        simp only [List.length_cons, List.length_nil]
        by_cases h1 : j < A.length
        · rw [if_pos h1] at hj
          rw [if_neg (by omega)]
          exact hcur j y hj
        · rw [if_neg h1, if_pos (by omega)] at hj
          cases hj
          rw [if_pos (by omega), show off + j - (off + A.length) = 0 by omega]; rfl
      · have hlt : i < A.length := by omega
        have hcl : Calls Try.prog 19 #[.slice (some ⟨g, off, none⟩) A.length cap, .int .i64 i, .slice (some ⟨vb, 0, none⟩) 1 vc] w fun e w' =>
            e = .returned (.slice (some ⟨g, off, none⟩) (A.length + 1) cap) ∧ w' = (w.drew.setCells g (off + (i + 1)) ((A.map (Value.int .i64)).drop i)).setCells g (off + i) [.int .i64 x] :=
          Any2.slices_Insert_int_shift Try.laysInsert g off A.length cap i vb 0 1 vc (A.map (Value.int .i64)) [.int .i64 x] w hlt (by omega) hroom (by unfold maxLen at htop; omega) hne (by simp) rfl hcell (fun j hj => hsome _ (by omega)) (fun j _ => frozen_of_blk hb) hvs (one_ints A) h1v
            tA 3 c.size cur.size (by simp [World.shape?, hvb]) (by simp [World.shape?, hb]) (by omega) (frozen_of_blk hvb) (frozen_of_blk hvb)
        refine hcl.mono ?_
        rintro e w' ⟨rfl, rfl⟩
        have hdl : ((A.map (Value.int .i64)).drop i).length = A.length - i := by simp
        obtain ⟨cur1, k1, k2, k3⟩ := setCells_blk ((A.map (Value.int .i64)).drop i) (off + (i + 1)) w.drew cur hb (by rw [hdl]; omega)
        obtain ⟨cur2, m1, m2, m3⟩ := setCells_blk [Value.int .i64 x] (off + i) _ cur1 k1 (by simp only [List.length_cons, List.length_nil]; omega)
        refine ⟨_, rfl, IntsAre.mk (rowMem_ints m1 (by omega) (by rw [ins_len hi]; omega) htop (fun j y hj => ?_)) (ins_len hi), Only.setCells (.inl (by simp [blockOf])) _ _ (Only.setCells (.inl (by simp [blockOf])) _ _ (Only.refl _ _).drew), fun b hb => .inl hb⟩
        have hjl := (List.getElem?_eq_some_iff.1 hj).1
        rw [ins_len hi] at hjl
        rw [ins_get hi] at hj
        rw [m3, k3, hdl]
        simp only [List.length_cons, List.length_nil]
        by_cases h1 : j < i
        · rw [if_pos h1] at hj
          rw [if_neg (by omega), if_neg (by omega)]
          exact hcur j y hj
        · rw [if_neg h1] at hj
          by_cases h2 : j = i
          · rw [if_pos h2] at hj
            cases hj
            rw [if_pos (by omega), show off + j - (off + i) = 0 by omega]; rfl
          · rw [if_neg h2] at hj
            rw [if_neg (by omega), if_pos (by omega), List.getElem?_drop, List.getElem?_map, show i + (off + j - (off + (i + 1))) = j - 1 by omega, hj]; rfl
    · by_cases hend : i = A.length
      · have hg := grown cap hend (fun _ _ => trivial)
        subst hend
        have hcl : Calls Try.prog 19 #[.slice (some ⟨g, off, none⟩) A.length cap, .int .i64 A.length, .slice (some ⟨vb, 0, none⟩) 1 vc] w fun e w' =>
            e = .returned (.slice (some ⟨w.heap.size, 0, none⟩) (A.length + 1) (grownCap w (A.length + 1) cap 3)) ∧ w' = w.drew.alloc (.cells ((A.map (Value.int .i64) ++ [Value.int .i64 x]).toArray ++ Builtin.zeroCells (Value.int .i64 0).cells (grownCap w (A.length + 1) cap 3 - (A.length + 1))) 3) :=
          Any2.slices_Insert_int_end_grow Try.laysInsert (some ⟨g, off, none⟩) A.length cap vb 0 1 vc (A.map (Value.int .i64)) [.int .i64 x] w (by omega) hfit (by omega) (by omega) (by simp) rfl (fun h => by cases h)
            (fun a ha j v hj => by cases ha; rw [show (⟨g, off, none⟩ : Addr).add j = ⟨g, off + j, none⟩ by unfold Addr.add; split <;> simp_all]; exact hcell j v hj) hvs h1v
        refine hcl.mono ?_
        rintro e w' ⟨rfl, rfl⟩
        exact ⟨_, rfl, hg, ((Only.refl _ _).drew).alloc _, fun b hb => .inr (by simp only [blockOf, List.mem_singleton] at hb; omega)⟩
      · have hlt : i < A.length := by omega
        have hcl : Calls Try.prog 19 #[.slice (some ⟨g, off, none⟩) A.length cap, .int .i64 i, .slice (some ⟨vb, 0, none⟩) 1 vc] w fun e w' =>
            e = .returned (.slice (some ⟨w.heap.size, 0, none⟩) (A.length + 1) (grownCap w (A.length + 1) cap 3)) ∧
              w' = (((w.alloc (.cells (((A.map (Value.int .i64)).take i).toArray ++ Builtin.zeroCells (Value.int .i64 0).cells (A.length + 1 - i) ++ Builtin.zeroCells (Value.int .i64 0).cells (grownCap w (A.length + 1) cap 3 - (A.length + 1))) 3)).drew.setCells w.heap.size i [.int .i64 x]).drew).setCells w.heap.size (i + 1) ((A.map (Value.int .i64)).drop i) :=
          Any2.slices_Insert_int_grow Try.laysInsert g off A.length cap i vb 0 1 vc (A.map (Value.int .i64)) [.int .i64 x] w hlt (by omega) hfit (by omega) (by omega) (by simp) rfl hcell hvs (one_ints A) h1v
        refine hcl.mono ?_
        rintro e w' ⟨rfl, rfl⟩
        have hge := grownCap_ge w (A.length + 1) cap 3
        have hc1 : (Value.int IntKind.i64 0).cells.size = 1 := rfl
        have hdl : ((A.map (Value.int .i64)).drop i).length = A.length - i := by simp
        have hsz : (((A.map (Value.int .i64)).take i).toArray ++ Builtin.zeroCells (Value.int .i64 0).cells (A.length + 1 - i) ++ Builtin.zeroCells (Value.int .i64 0).cells (grownCap w (A.length + 1) cap 3 - (A.length + 1))).size = grownCap w (A.length + 1) cap 3 := by
          simp only [Array.size_append, List.size_toArray, List.length_take, List.length_map, size_zeroCells, hc1]; omega
        obtain ⟨cur1, k1, k2, k3⟩ := setCells_blk [Value.int .i64 x] i (w.alloc _).drew _ (heap_alloc_new w _) (by rw [hsz]; simp only [List.length_cons, List.length_nil]; omega)
        obtain ⟨cur2, m1, m2, m3⟩ := setCells_blk ((A.map (Value.int .i64)).drop i) (i + 1) (((w.alloc _).drew.setCells w.heap.size i [Value.int .i64 x]).drew) cur1 k1 (by rw [k2, hsz, hdl]; omega)
        refine ⟨_, rfl, IntsAre.mk (rowMem_ints m1 (by rw [m2, k2, hsz]; omega) (by rw [ins_len hi]; exact hge) (grownCap_le_maxLen w (A.length + 1) cap 3 (by unfold maxLen; omega)) (fun j y hj => ?_)) (ins_len hi),
          Only.setCells (.inr (Nat.le_refl _)) _ _ (Only.setCells (.inr (Nat.le_refl _)) _ _ ((Only.refl _ _).alloc _).drew).drew, fun b hb => .inr (by simp only [blockOf, List.mem_singleton] at hb; omega)⟩
        have hjl := (List.getElem?_eq_some_iff.1 hj).1
        rw [ins_len hi] at hjl
        rw [ins_get hi] at hj
        rw [Nat.zero_add, m3, k3, hdl]
        simp only [List.length_cons, List.length_nil]
        by_cases h1 : j < i
        · rw [if_pos h1] at hj
          rw [if_neg (by omega), if_neg (by omega), Array.append_assoc, Array.getElem?_append_left (by simp; omega), List.getElem?_toArray, List.getElem?_take, if_pos h1, List.getElem?_map, hj]; rfl
        · rw [if_neg h1] at hj
          by_cases h2 : j = i
          · rw [if_pos h2] at hj
            cases hj
            rw [if_neg (by omega), if_pos (by omega), show j - i = 0 by omega]; rfl
          · rw [if_neg h2] at hj
            rw [if_pos (by omega), List.getElem?_drop, List.getElem?_map, show i + (j - (i + 1)) = j - 1 by omega, hj]; rfl

end Go.Proofs.Ytaldaaihkpckoaa
