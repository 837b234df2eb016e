/- Layer 4 (ctx), plain laws: what is split is joined again; parents are told back; marks that are laid are read. No program stands in this text. -/
import Derived.Test.YtfnbkcdcdeojfaaDoorCa
set_option linter.unusedVariables false
set_option linter.unusedSimpArgs false
namespace Go.Cx

/-! Splitting and joining. -/

theorem splitC_app {c : UInt8} : ∀ {a r : List UInt8}, c ∉ a → splitC c (a ++ c :: r) = a :: splitC c r
  | [], r, _ => by rw [List.nil_append, splitC, if_pos rfl]
  | b :: a, r, h => by
    simp only [List.mem_cons, not_or] at h
    rw [List.cons_append, splitC, if_neg (Ne.symm h.1), splitC_app h.2]
theorem splitC_one {c : UInt8} : ∀ {a : List UInt8}, c ∉ a → splitC c a = [a]
  | [], _ => rfl
  | b :: a, h => by
    simp only [List.mem_cons, not_or] at h
    rw [splitC, if_neg (Ne.symm h.1), splitC_one h.2]
theorem splitC_notin {c : UInt8} : ∀ {l p : List UInt8}, p ∈ splitC c l → c ∉ p
  | [], p, h => by simp [splitC] at h; simp [h]
  | b :: l, p, h => by
    have ih := fun q => @splitC_notin c l q
    unfold splitC at h
    split at h
    · rcases List.mem_cons.1 h with rfl | h
      · simp
      · exact ih p h
    · rename_i hb
      split at h
      · simp only [List.mem_singleton] at h; subst h; simpa using Ne.symm hb
      · rename_i q qs hq
        rcases List.mem_cons.1 h with rfl | h
        · have := ih q (by rw [hq]; simp)
          simp only [List.mem_cons, not_or]
          exact ⟨Ne.symm hb, this⟩
        · exact ih p (by rw [hq]; simp [h])
theorem joinTail_cons (sep y : List UInt8) (r : List (List UInt8)) : Lib.joinTail sep (y :: r) = sep ++ y ++ Lib.joinTail sep r := by simp [Lib.joinTail]
theorem splitC_join {c : UInt8} : ∀ {r : List (List UInt8)} {x : List UInt8}, (∀ p ∈ x :: r, c ∉ p) → splitC c (Lib.join (x :: r) [c]) = x :: r
  | [], x, h => by rw [Lib.join_one]; exact splitC_one (h x (by simp))
  | y :: r, x, h => by
    have ih := @splitC_join c r y (fun p hp => h p (List.mem_cons_of_mem _ hp))
    rw [Lib.join_cons] at ih ⊢
    rw [joinTail_cons, List.append_assoc, List.singleton_append, splitC_app (h x (by simp)), ih]
theorem join_splitC (c : UInt8) : ∀ l : List UInt8, Lib.join (splitC c l) [c] = l
  | [] => rfl
  | b :: l => by
    have ih := join_splitC c l
    have hne := splitC_ne c l
    unfold splitC
    cases hs : splitC c l with
    | nil => exact absurd hs hne
    | cons p ps =>
      rw [hs] at ih
      by_cases h : b = c
      · rw [if_pos h, Lib.join_cons, joinTail_cons, List.nil_append]
        rw [Lib.join_cons] at ih
        rw [h, List.append_assoc, ih]
        rfl
      · rw [if_neg h]
        simp only
        rw [Lib.join_cons] at ih ⊢
        rw [List.cons_append, ih]
theorem cutC_app {c : UInt8} : ∀ {a r : List UInt8}, c ∉ a → cutC c (a ++ c :: r) = (a, r, true)
  | [], r, _ => by rw [List.nil_append, cutC, if_pos rfl]
  | b :: a, r, h => by
    simp only [List.mem_cons, not_or] at h
    rw [List.cons_append, cutC, if_neg (Ne.symm h.1), cutC_app h.2]
theorem cutC_true {c : UInt8} : ∀ {l : List UInt8}, (cutC c l).2.2 = true → l = (cutC c l).1 ++ c :: (cutC c l).2.1 ∧ c ∉ (cutC c l).1
  | [], h => by simp [cutC] at h
  | b :: l, h => by
    unfold cutC at h ⊢
    by_cases hb : b = c
    · subst hb; simp
    · rw [if_neg hb] at h ⊢
      obtain ⟨h1, h2⟩ := cutC_true (l := l) h
      simp only [List.cons_append, List.mem_cons, not_or]
      exact ⟨by rw [← h1], Ne.symm hb, h2⟩

theorem join_ne_nil {x : List UInt8} {r : List (List UInt8)} {sep : List UInt8} (h : x ≠ []) : Lib.join (x :: r) sep ≠ [] := by
  rw [Lib.join_cons]
  intro e
  exact h (List.append_eq_nil_iff.1 e).1
theorem parts_join {c : UInt8} {L : List (List UInt8)} (h : ∀ p ∈ L, c ∉ p) (hn : ∀ p ∈ L, p ≠ []) : partsC c (Lib.join L [c]) = L := by
  unfold partsC
  cases L with
  | nil => rfl
  | cons x r => rw [if_neg (join_ne_nil (hn x (by simp))), splitC_join h]

/-! Digits. -/

theorem mem_hexed : ∀ {k n : Nat} {c : UInt8}, c ∈ hexedL n k → ∃ d, d < 16 ∧ c = dig d
  | 0, n, c, h => by simp [hexedL] at h
  | k + 1, n, c, h => by
    unfold hexedL at h
    rcases List.mem_append.1 h with h | h
    · exact mem_hexed h
    · exact ⟨n % 16, Nat.mod_lt _ (by omega), by simpa using h⟩
theorem dig_facts : ∀ d : Fin 16, dig d.1 ≠ 45 ∧ dig d.1 ≠ 58 ∧ dig d.1 ≠ 59 ∧ dig d.1 ≠ 44 ∧ dig d.1 ≠ 61 ∧ valC (dig d.1) = true := by decide
theorem hexed_free {k n : Nat} {c : UInt8} (hc : c = 45 ∨ c = 58 ∨ c = 59 ∨ c = 44 ∨ c = 61) : c ∉ hexedL n k := by
  intro h
  obtain ⟨d, hd, e⟩ := mem_hexed h
  obtain ⟨h1, h2, h3, h4, h5, _⟩ := dig_facts ⟨d, hd⟩
  subst e
  rcases hc with h | h | h | h | h
  · exact h1 h
  · exact h2 h
  · exact h3 h
  · exact h4 h
  · exact h5 h
theorem hexed_val {k n : Nat} {c : UInt8} (h : c ∈ hexedL n k) : valC c = true := by
  obtain ⟨d, hd, rfl⟩ := mem_hexed h
  exact (dig_facts ⟨d, hd⟩).2.2.2.2.2

/-! Parents. -/

structure PaOk (p : Pa) : Prop where
  hi : p.hi < 16 ^ 16
  lo : p.lo < 16 ^ 16
  span : p.span < 16 ^ 16
  flags : p.flags < 256

theorem parse_print {p : Pa} (h : PaOk p) (h0 : ¬ ((p.hi = 0 ∧ p.lo = 0) ∨ p.span = 0)) : parseL (printL p).1 = (p, 0) ∧ (printL p).2 = 0 ∧ (printL p).1.length = 55 := by
  unfold printL
  rw [if_neg h0]
  have hl : ([48, 48] ++ [45] ++ hexedL p.hi 16 ++ hexedL p.lo 16 ++ [45] ++ hexedL p.span 16 ++ [45] ++ hexedL p.flags 2).length = 55 := by
    simp only [List.length_append, hexedL_length, List.length_cons, List.length_nil]
  refine ⟨?_, rfl, hl⟩
  have e : splitC 45 ([48, 48] ++ [45] ++ hexedL p.hi 16 ++ hexedL p.lo 16 ++ [45] ++ hexedL p.span 16 ++ [45] ++ hexedL p.flags 2) = [[48, 48], hexedL p.hi 16 ++ hexedL p.lo 16, hexedL p.span 16, hexedL p.flags 2] := by
    have e1 : ([48, 48] ++ [45] ++ hexedL p.hi 16 ++ hexedL p.lo 16 ++ [45] ++ hexedL p.span 16 ++ [45] ++ hexedL p.flags 2 : List UInt8) =
        [48, 48] ++ 45 :: ((hexedL p.hi 16 ++ hexedL p.lo 16) ++ 45 :: (hexedL p.span 16 ++ 45 :: hexedL p.flags 2)) := by simp
    rw [e1, splitC_app (by decide), splitC_app (by
      rw [List.mem_append]
      rintro (h | h)
      · exact hexed_free (.inl rfl) h
      · exact hexed_free (.inl rfl) h), splitC_app (hexed_free (.inl rfl)), splitC_one (hexed_free (.inl rfl))]
  unfold parseL
  simp only
  rw [if_neg (by rw [hl]; decide), e]
  unfold paOf
  simp only
  rw [if_pos ⟨trivial, by rw [List.length_append, hexedL_length, hexedL_length], hexedL_length _ _⟩]
  rw [List.take_append_of_le_length (by rw [hexedL_length]; omega), List.take_of_length_le (by rw [hexedL_length]; omega),
    List.drop_append_of_le_length (by rw [hexedL_length]; omega), List.drop_eq_nil_of_le (by rw [hexedL_length]; omega), List.nil_append,
    hexL_hexed (by omega) h.hi, hexL_hexed (by omega) h.lo, hexL_hexed (by omega) h.span, hexL_hexed (by omega) h.flags]
  simp only
  rw [Nat.mod_eq_of_lt h.flags]
  exact if_neg h0

/-! Members. -/

structure KVOk (kv : KV) : Prop where
  key : keyOk kv.1 = true
  val : valOk kv.2 = true

theorem key_facts : ∀ c : UInt8, keyC c = true → c ≠ 44 ∧ c ≠ 61 := byte_all (P := fun c => keyC c = true → c ≠ 44 ∧ c ≠ 61) (by decide +kernel)
theorem val_facts : ∀ c : UInt8, valC c = true → c ≠ 44 := byte_all (P := fun c => valC c = true → c ≠ 44) (by decide +kernel)
theorem key_free {k : List UInt8} (h : keyOk k = true) : 44 ∉ k ∧ 61 ∉ k ∧ k ≠ [] := by
  unfold keyOk at h
  simp only [Bool.and_eq_true, List.all_eq_true, decide_eq_true_eq] at h
  exact ⟨fun hm => (key_facts _ (h.1 _ hm)).1 rfl, fun hm => (key_facts _ (h.1 _ hm)).2 rfl, fun e => by subst e; simp at h⟩
theorem val_free {v : List UInt8} (h : valOk v = true) : 44 ∉ v := by
  unfold valOk at h
  simp only [Bool.and_eq_true, List.all_eq_true, decide_eq_true_eq] at h
  exact fun hm => val_facts _ (h.1 _ hm) rfl
theorem kvL_free {kv : KV} (h : KVOk kv) : 44 ∉ kvL kv ∧ kvL kv ≠ [] := by
  have h1 := key_free h.key
  have h2 := val_free h.val
  unfold kvL
  simp only [List.mem_append, List.mem_singleton, not_or]
  exact ⟨⟨⟨h1.1, by decide⟩, h2⟩, by simp⟩
theorem cut_kv {kv : KV} (h : KVOk kv) : cutC 61 (kvL kv) = (kv.1, kv.2, true) := by
  unfold kvL
  rw [List.append_assoc, List.singleton_append]
  exact cutC_app (key_free h.key).2.1

theorem memOne_kv {kv : KV} {seen : List (List UInt8)} (h : KVOk kv) (hs : kv.1 ∉ seen) : memOne seen (kvL kv) = some kv := by
  unfold memOne
  rw [cut_kv h]
  simp only [h.key, h.val, Bool.true_and]
  rw [if_pos (by simpa using hs)]
theorem memOne_some {p : List UInt8} {kv : KV} {seen : List (List UInt8)} (h : memOne seen p = some kv) : KVOk kv ∧ kv.1 ∉ seen ∧ p = kvL kv := by
  unfold memOne at h
  split at h
  · rename_i hc
    simp only [Bool.and_eq_true, Bool.not_eq_true'] at hc
    cases h
    obtain ⟨h1, h2, h3, h4⟩ := hc
    refine ⟨⟨h2, h3⟩, by simpa using h4, ?_⟩
    have := (cutC_true h1).1
    unfold kvL
    rw [List.append_assoc, List.singleton_append]
    exact this
  · cases h

theorem membs_kv : ∀ {L : List KV} {seen : List (List UInt8)}, (∀ kv ∈ L, KVOk kv) → (∀ kv ∈ L, kv.1 ∉ seen) → (L.map (·.1)).Nodup → membs seen (L.map kvL) = (L, false)
  | [], _, _, _, _ => rfl
  | kv :: L, seen, h1, h2, h3 => by
    simp only [List.map_cons, List.nodup_cons] at h3
    rw [List.map_cons, membs, memOne_kv (h1 kv (by simp)) (h2 kv (by simp))]
    simp only
    rw [membs_kv (fun x hx => h1 x (by simp [hx])) (fun x hx => by
      simp only [List.mem_cons, not_or]
      exact ⟨fun e => h3.1 (e ▸ List.mem_map.2 ⟨x, hx, rfl⟩), h2 x (by simp [hx])⟩) h3.2]
theorem membs_ok : ∀ {ps : List (List UInt8)} {seen : List (List UInt8)}, (membs seen ps).2 = false →
    (∀ kv ∈ (membs seen ps).1, KVOk kv) ∧ (∀ kv ∈ (membs seen ps).1, kv.1 ∉ seen) ∧ ((membs seen ps).1.map (·.1)).Nodup ∧ ps = (membs seen ps).1.map kvL
  | [], seen, _ => by simp [membs]
  | p :: ps, seen, h => by
    unfold membs at h ⊢
    cases hm : memOne seen p with
    | none => rw [hm] at h; simp at h
    | some kv =>
      rw [hm] at h
      simp only at h ⊢
      obtain ⟨h1, h2, h3, h4⟩ := membs_ok h
      obtain ⟨k1, k2, k3⟩ := memOne_some hm
      refine ⟨?_, ?_, ?_, ?_⟩
      · intro x hx
        rcases List.mem_cons.1 hx with rfl | hx
        · exact k1
        · exact h1 x hx
      · intro x hx
        rcases List.mem_cons.1 hx with rfl | hx
        · exact k2
        · exact fun hm => h2 x hx (List.mem_cons_of_mem _ hm)
      · rw [List.map_cons, List.nodup_cons]
        refine ⟨fun hm => ?_, h3⟩
        obtain ⟨x, hx, e⟩ := List.mem_map.1 hm
        exact h2 x hx (by rw [e]; simp)
      · rw [List.map_cons, ← k3, ← h4]

/-! Marks. -/

theorem trim_zeros (l : List UInt8) : ∃ k, l = Lib.trimRightB l 48 ++ List.replicate k 48 := by
  unfold Lib.trimRightB
  have h : ∀ r : List UInt8, ∃ k, r = List.replicate k 48 ++ r.dropWhile (· == 48) := by
    intro r
    induction r with
    | nil => exact ⟨0, rfl⟩
    | cons b r ih =>
      by_cases hb : b = 48
      · subst hb
        obtain ⟨k, hk⟩ := ih
        refine ⟨k + 1, ?_⟩
        rw [List.dropWhile_cons_of_pos (by simp), List.replicate_succ, List.cons_append, ← hk]
      · exact ⟨0, by rw [List.dropWhile_cons_of_neg (by simpa using hb)]; rfl⟩
  obtain ⟨k, hk⟩ := h l.reverse
  refine ⟨k, ?_⟩
  have h2 := congrArg List.reverse hk
  rw [List.reverse_reverse, List.reverse_append, List.reverse_replicate] at h2
  exact h2
theorem hexA_zeros : ∀ (k n : Nat), n * 16 ^ k < big → hexA n (List.replicate k 48) = some (n * 16 ^ k)
  | 0, n, _ => by simp [hexA]
  | k + 1, n, h => by
    rw [List.replicate_succ, hexA]
    have hd : digN 48 = some 0 := by decide
    rw [hd]
    simp only [Nat.add_zero]
    have h1 : 16 * n * 16 ^ k = n * 16 ^ (k + 1) := by rw [Nat.pow_succ, Nat.mul_comm (16 ^ k) 16, ← Nat.mul_assoc, Nat.mul_comm 16 n]
    have h2 : 16 * n < big := by
      have : 16 * n * 1 ≤ 16 * n * 16 ^ k := Nat.mul_le_mul_left _ (Nat.pow_pos (by omega))
      omega
    rw [Nat.mod_eq_of_lt h2, hexA_zeros k (16 * n) (by omega), h1]
theorem thr_short {n : Nat} (h : n < 16 ^ 14) : thr (shortL n) = some n ∧ 1 ≤ (shortL n).length ∧ (shortL n).length ≤ 14 ∧ ∀ c ∈ shortL n, ∃ d, d < 16 ∧ c = dig d := by
  obtain ⟨k, hk⟩ := trim_zeros (hexedL n 14)
  generalize hu : Lib.trimRightB (hexedL n 14) 48 = u at hk
  have hlen : u.length + k = 14 := by
    have := congrArg List.length hk
    rw [hexedL_length, List.length_append, List.length_replicate] at this
    omega
  have hval := hexL_hexed (k := 14) (by omega) h
  rw [hk] at hval
  unfold hexL at hval
  rw [hexA_append] at hval
  have hd : ∀ c ∈ u, ∃ d, d < 16 ∧ c = dig d := fun c hc => mem_hexed (k := 14) (n := n) (by rw [hk]; exact List.mem_append.2 (.inl hc))
  cases he : hexA 0 u with
  | none => rw [he] at hval; cases hval
  | some v =>
    rw [he, Option.bind_some] at hval
    have hv := hexA_small (k := 0) (by decide) (by omega) he
    rw [Nat.zero_add] at hv
    have hlt : v * 16 ^ k < big := by
      have h1 : v * 16 ^ k < 16 ^ u.length * 16 ^ k := Nat.mul_lt_mul_of_pos_right hv (Nat.pow_pos (by omega))
      rw [← Nat.pow_add, hlen] at h1
      exact Nat.lt_of_lt_of_le h1 (by decide)
    rw [hexA_zeros k v hlt] at hval
    have hvn : v * 16 ^ k = n := Option.some.inj hval
    unfold shortL
    rw [hu]
    by_cases h0 : u = []
    · subst h0
      rw [if_pos rfl]
      simp only [hexA] at he
      cases he
      rw [Nat.zero_mul] at hvn
      subst hvn
      exact ⟨by decide, by decide, by decide, fun c hc => ⟨0, by omega, by rw [List.mem_singleton] at hc; rw [hc]; rfl⟩⟩
    · rw [if_neg h0]
      have h1 : 1 ≤ u.length := List.length_pos_iff.2 h0
      refine ⟨?_, h1, by omega, hd⟩
      unfold thr hexL
      rw [if_pos ⟨h1, by omega⟩, he, show 14 - u.length = k by omega]
      simp [hvn]

theorem free_of_dig {l : List UInt8} (h : ∀ c ∈ l, ∃ d, d < 16 ∧ c = dig d) {c : UInt8} (hc : c = 45 ∨ c = 58 ∨ c = 59 ∨ c = 44 ∨ c = 61) : c ∉ l := by
  intro hm
  obtain ⟨d, hd, e⟩ := h c hm
  obtain ⟨h1, h2, h3, h4, h5, _⟩ := dig_facts ⟨d, hd⟩
  subst e
  rcases hc with h | h | h | h | h
  · exact h1 h
  · exact h2 h
  · exact h3 h
  · exact h4 h
  · exact h5 h
theorem val_of_dig {l : List UInt8} (h : ∀ c ∈ l, ∃ d, d < 16 ∧ c = dig d) : l.all valC = true := by
  rw [List.all_eq_true]
  intro c hc
  obtain ⟨d, hd, e⟩ := h c hc
  rw [e]
  exact (dig_facts ⟨d, hd⟩).2.2.2.2.2

theorem markOne_th {m : Mk} {n : Nat} (h : n < 16 ^ 14) (hm : m.hasT = false) : markOne m ([116, 104, 58] ++ shortL n) = some { m with hasT := true, t := n } := by
  have hc : cutC 58 ([116, 104, 58] ++ shortL n) = ([116, 104], shortL n, true) := by
    rw [show ([116, 104, 58] ++ shortL n : List UInt8) = [116, 104] ++ 58 :: shortL n by simp]
    exact cutC_app (by decide)
  unfold markOne
  rw [hc]
  simp only
  rw [if_neg (by decide), if_pos trivial, (thr_short h).1, hm]
  simp
theorem markOne_rv {m : Mk} {n : Nat} (h : n < 16 ^ 14) (hm : m.hasR = false) : markOne m ([114, 118, 58] ++ hexedL n 14) = some { m with hasR := true, r := n } := by
  have hc : cutC 58 ([114, 118, 58] ++ hexedL n 14) = ([114, 118], hexedL n 14, true) := by
    generalize hexedL n 14 = l
    rw [show ([114, 118, 58] ++ l : List UInt8) = [114, 118] ++ 58 :: l by simp]
    exact cutC_app (by decide)
  unfold markOne
  rw [hc]
  simp only
  rw [if_neg (by decide), if_neg (by decide), if_pos trivial]
  unfold drawn
  rw [if_pos (hexedL_length _ _), hexL_hexed (by omega) h, hm]
  simp

theorem p56 : (72057594037927936 : Nat) = 16 ^ 14 := by decide
/-- Marks that may be, as a value: right, and told back. -/
theorem written_ok {m : Mk} (h : marksBad m = false) : (writtenL m ≠ [] → valOk (writtenL m) = true ∧ marksL (writtenL m) = some m) ∧ (writtenL m = [] → m = Mk.none) := by
  obtain ⟨hT, t, hR, r⟩ := m
  unfold marksBad at h
  simp only [Bool.or_eq_false_iff, decide_eq_false_iff_not, p56] at h
  obtain ⟨h1, h2, h3, h4⟩ := h
  have ht : t < 16 ^ 14 := by omega
  have hr : r < 16 ^ 14 := by omega
  obtain ⟨s1, s2, s3, s4⟩ := thr_short ht
  have hxd : ∀ c ∈ hexedL r 14, ∃ d, d < 16 ∧ c = dig d := fun c hc => mem_hexed hc
  have hxl := hexedL_length r 14
  have a1 : ([116, 104, 58] ++ shortL t).all valC = true := by rw [List.all_append, val_of_dig s4]; decide
  have a2 : ([114, 118, 58] ++ hexedL r 14).all valC = true := by rw [List.all_append, val_of_dig hxd]; decide
  have f1 : (59 : UInt8) ∉ [116, 104, 58] ++ shortL t := by
    rw [List.mem_append, not_or]
    exact ⟨by decide, free_of_dig s4 (.inr (.inr (.inl rfl)))⟩
  have f2 : (59 : UInt8) ∉ [114, 118, 58] ++ hexedL r 14 := by
    rw [List.mem_append, not_or]
    exact ⟨by decide, free_of_dig hxd (.inr (.inr (.inl rfl)))⟩
  cases hT <;> cases hR <;> simp only [writtenL, if_true, if_false, Bool.false_eq_true, List.nil_append, List.append_nil]
  · refine ⟨fun h => absurd rfl h, fun _ => ?_⟩
    simp only [Bool.not_false, Bool.true_and, bne_eq_false_iff_eq] at h3 h4
    subst h3; subst h4
    rfl
  · refine ⟨fun _ => ⟨?_, ?_⟩, fun h => absurd h (join_ne_nil (by simp))⟩
    · rw [Lib.join_one]
      unfold valOk
      rw [a2]
      simp [hxl]
    · unfold marksL
      rw [splitC_join (by simpa using f2)]
      simp only [marksA]
      rw [markOne_rv hr rfl]
      simp only [Bool.not_false, Bool.true_and, bne_eq_false_iff_eq] at h3
      subst h3
      rfl
  · refine ⟨fun _ => ⟨?_, ?_⟩, fun h => absurd h (join_ne_nil (by simp))⟩
    · rw [Lib.join_one]
      unfold valOk
      rw [a1]
      simp; omega
    · unfold marksL
      rw [splitC_join (by simpa using f1)]
      simp only [marksA]
      rw [markOne_th ht rfl]
      simp only [Bool.not_false, Bool.true_and, bne_eq_false_iff_eq] at h4
      subst h4
      rfl
  · refine ⟨fun _ => ⟨?_, ?_⟩, fun h => absurd h (join_ne_nil (by simp))⟩
    · rw [List.singleton_append, Lib.join_cons, joinTail_cons, show Lib.joinTail [59] [] = [] from rfl, List.append_nil]
      unfold valOk
      rw [← List.append_assoc, List.all_append, List.all_append, a1, a2]
      simp only [List.length_append, hxl, List.length_cons, List.length_nil, Bool.and_true, Bool.true_and, Bool.and_eq_true, decide_eq_true_eq]
      exact ⟨by decide, by omega, by omega⟩
    · unfold marksL
      rw [List.singleton_append, splitC_join (by
        intro p hp
        simp only [List.mem_cons, List.not_mem_nil, or_false] at hp
        rcases hp with rfl | rfl
        · exact f1
        · exact f2)]
      simp only [marksA]
      rw [markOne_th ht rfl, Option.bind_some, markOne_rv hr rfl]
      rfl

/-! Marks that are laid are read; laid again the state is the same. -/

theorem ot_key : keyOk ot = true := by decide
theorem read_ok {s : List UInt8} (h : (readL s).2 = 0) : s.length ≤ 512 ∧ (partsC 44 s).length ≤ 32 ∧ (membs [] (partsC 44 s)).2 = false := by
  unfold readL at h
  split at h
  · cases h
  · rename_i h1
    split at h
    · cases h
    · rename_i h2
      exact ⟨by omega, by omega, by simpa using h2⟩

theorem with_back {x s : List UInt8} {m : Mk} (h : withL x m = (s, 0)) : readL s = (m, 0) ∧ withL s m = (s, 0) := by
  unfold withL at h
  split at h
  · rename_i h0; rw [Prod.mk.injEq] at h; exact absurd h.2 h0
  rename_i hr
  split at h
  · cases h
  rename_i hb
  split at h
  · cases h
  rename_i hl
  have hb' : marksBad m = false := by simpa using hb
  have hr' : (readL x).2 = 0 := by simpa using hr
  obtain ⟨_, _, r3⟩ := read_ok hr'
  obtain ⟨m1, m2, m3, m4⟩ := membs_ok r3
  obtain ⟨w1, w2⟩ := written_ok hb'
  have hs : s = Lib.join (laidL x m) [44] := by rw [Prod.mk.injEq] at h; exact h.1.symm
  generalize hO : (membs [] (partsC 44 x)).1.filter (fun kv => kv.1 ≠ ot) = O at *
  have o1 : ∀ kv ∈ O, KVOk kv := fun kv hkv => m1 kv (by rw [← hO] at hkv; exact (List.mem_filter.1 hkv).1)
  have o2 : ∀ kv ∈ O, kv.1 ≠ ot := fun kv hkv => by rw [← hO] at hkv; simpa using (List.mem_filter.1 hkv).2
  have o3 : (O.map (·.1)).Nodup := by rw [← hO]; exact m3.sublist (List.filter_sublist.map _)
  obtain ⟨N, hN⟩ : ∃ N : List KV, N = (if writtenL m = [] then [] else [(ot, writtenL m)]) ++ O := ⟨_, rfl⟩
  have hNl : laidL x m = N.map kvL := by
    unfold laidL
    rw [hO, hN, List.map_append]
    congr 1
    by_cases hw : writtenL m = []
    · rw [if_pos hw, if_pos hw]; rfl
    · rw [if_neg hw, if_neg hw]; rfl
  have n1 : ∀ kv ∈ N, KVOk kv := by
    intro kv hkv
    rw [hN] at hkv
    rcases List.mem_append.1 hkv with h | h
    · by_cases hw : writtenL m = []
      · rw [if_pos hw] at h; cases h
      · rw [if_neg hw, List.mem_singleton] at h
        subst h
        exact ⟨ot_key, (w1 hw).1⟩
    · exact o1 kv h
  have n3 : (N.map (·.1)).Nodup := by
    rw [hN]
    by_cases hw : writtenL m = []
    · rw [if_pos hw, List.nil_append]; exact o3
    · rw [if_neg hw, List.singleton_append, List.map_cons, List.nodup_cons]
      refine ⟨fun hm => ?_, o3⟩
      obtain ⟨kv, hkv, e⟩ := List.mem_map.1 hm
      exact o2 kv hkv e
  have hp : partsC 44 s = N.map kvL := by
    rw [hs, hNl]
    refine parts_join ?_ ?_
    · intro p hp
      obtain ⟨kv, hkv, rfl⟩ := List.mem_map.1 hp
      exact (kvL_free (n1 kv hkv)).1
    · intro p hp
      obtain ⟨kv, hkv, rfl⟩ := List.mem_map.1 hp
      exact (kvL_free (n1 kv hkv)).2
  have hmem : membs [] (partsC 44 s) = (N, false) := by
    rw [hp]
    exact membs_kv n1 (by simp) n3
  have hfo : O.find? (fun kv => decide (kv.1 = ot)) = none := by
    rw [List.find?_eq_none]
    intro kv hkv
    simpa using o2 kv hkv
  have hread : readL s = (m, 0) := by
    unfold readL
    rw [hmem]
    rw [if_neg (by rw [hp, ← hNl, hs]; exact hl)]
    simp only [Bool.false_eq_true, if_false]
    rw [hN]
    by_cases hw : writtenL m = []
    · rw [if_pos hw, List.nil_append, hfo, w2 hw]
    · rw [if_neg hw, List.singleton_append, List.find?_cons_of_pos (by simp)]
      simp only
      rw [(w1 hw).2]
  refine ⟨hread, ?_⟩
  have hlaid : laidL s m = laidL x m := by
    unfold laidL
    rw [hmem, hO]
    simp only
    congr 2
    rw [hN, List.filter_append, show O.filter (fun kv => decide (kv.1 ≠ ot)) = O from List.filter_eq_self.2 (fun kv hkv => by simpa using o2 kv hkv)]
    by_cases hw : writtenL m = []
    · rw [if_pos hw]; rfl
    · rw [if_neg hw, List.filter_cons_of_neg (by simp)]; rfl
  unfold withL
  rw [hread, hlaid, if_neg (by simp), hb']
  simp only [Bool.false_eq_true, if_false]
  rw [if_neg hl, ← hs]

end Go.Cx
