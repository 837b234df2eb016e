/- Package ctx, walked: With. -/
import Derived.Test.YtfnbkcdcdeojfaaDoorCn
set_option linter.unusedVariables false
set_option linter.unusedSimpArgs false
namespace Go.Proofs.YtfnbkcdcdeojfaaDoor
open Go.RowKit Go.Mk Go.Cx Go.Shelf
attribute [-go_sem] Builtin.append_
attribute [local go_sem] Oper.semAt_some

/-- What holds between two rounds of With's loop. -/
def JWith (lb : Nat) (S0 : List Nat) (base : List (List UInt8)) (W1 : World) (pre : List BV) (X : List Nat) (W : World) : Prop :=
  Only (lb :: S0) W1 W ∧ (∃ p c L, W.heap[lb]? = some (.cells #[.slice p L.length c] 53 (0, 0)) ∧ SliceIs W 9 1 (strs L) (.slice p L.length c) ∧ dataL L = base ++ ((pre.map dataKV).filter (fun kv => kv.1 ≠ ot)).map kvL ∧
    (∀ g ∈ blockOf (.slice p L.length c), (g ∈ S0 ∨ W1.heap.size ≤ g) ∧ g ∉ X ∧ g ≠ lb)) ∧ ∀ x ∈ X, W1.heap.size ≤ x ∧ x < W.heap.size

theorem jwith_ok {lb sb bx : Nat} {S0 : List Nat} {base : List (List UInt8)} {W1 : World} {s : ByteArray} {m : Int} (hlb : lb < W1.heap.size) (hbx : W1.heap[bx]? = some (.cells #[.pointer (some ⟨sb, 0, none⟩)] 55 (0, 0))) (hsb : W1.heap[sb]? = some (.cells #[.string s, .bool false] 57 (0, 0)))
    (hm : W1.cell? ⟨0, 0, none⟩ = some (.int .i64 m)) (h1 : bx ∉ lb :: S0) (h2 : sb ∉ lb :: S0) (h3 : 0 ∉ lb :: S0) : ItOk (JWith lb S0 base W1) sb bx s m where
  reads := fun pre X W h => by
    obtain ⟨h4, h5, h6⟩ := h
    have hl1 := lt_of_blk hbx
    have hl2 := lt_of_blk hsb
    have hl3 := lt_of_cell hm
    exact ⟨h4.blk hbx h1, h4.blk hsb h2, h4.cell hm h3, fun hx => by have := h6 _ hx; omega, fun hx => by have := h6 _ hx; omega, fun hx => by have := h6 _ hx; omega⟩
  swap := fun pre X X' A B h hAB hX hX' => by
    obtain ⟨h4, ⟨p, c, L, h5, h7, h8, h9⟩, h6⟩ := h
    refine ⟨h4.trans' hAB (fun x hx hlt => by have := h6 x hx; omega), ⟨p, c, L, hAB.blk h5 (fun hx => by have := h6 _ hx; omega), h7.only hAB (fun b hb => (h9 b hb).2.1), h8, fun g hg => ⟨(h9 g hg).1, fun hm => ?_, (h9 g hg).2.2⟩⟩, fun x hx => ?_⟩
    · rcases hX g hm with h | h
      · exact (h9 g hg).2.1 h
      · have := h7.lt g hg
        omega
    · rcases hX x hx with h | h
      · exact ⟨(h6 x h).1, hX' x hx⟩
      · exact ⟨Nat.le_trans h4.size h, hX' x hx⟩

theorem jwith_next {lb l : Nat} {S0 : List Nat} {base : List (List UInt8)} {W1 W W3 : World} {pre pre' : List BV} {X : List Nat} {p p' : Option Addr} {c c' : Nat} {L L' : List ByteArray}
    (h1 : Only (lb :: S0) W1 W) (h9 : ∀ g ∈ blockOf (.slice p L.length c), (g ∈ S0 ∨ W1.heap.size ≤ g) ∧ g ∉ X ∧ g ≠ lb) (h3 : ∀ x ∈ X, W1.heap.size ≤ x ∧ x < W.heap.size)
    (hl : l < W1.heap.size) (hlb : lb < W1.heap.size) (h : Only (l :: lb :: blockOf (.slice p L.length c)) W W3) (hl3 : W3.heap[l]? = W1.heap[l]?)
    (hb : W3.heap[lb]? = some (.cells #[.slice p' L'.length c'] 53 (0, 0))) (hs : SliceIs W3 9 1 (strs L') (.slice p' L'.length c')) (hd : dataL L' = base ++ ((pre'.map dataKV).filter (fun kv => kv.1 ≠ ot)).map kvL)
    (hg : ∀ g ∈ blockOf (.slice p' L'.length c'), g ∈ blockOf (.slice p L.length c) ∨ W.heap.size ≤ g) :
    JWith lb S0 base W1 pre' X W3 ∧ W.heap.size ≤ W3.heap.size ∧ ∀ k ∈ X, W3.heap[k]? = W.heap[k]? := by
  have hls := h1.size
  refine ⟨⟨?_, ⟨p', c', L', hb, hs, hd, fun g hgm => ?_⟩, fun x hx => ⟨(h3 x hx).1, h.lt (h3 x hx).2⟩⟩, h.size, fun k hk => h.block k (h3 k hk).2 (fun hm => ?_)⟩
  · refine Only.back (l := l) ?_ hl3
    refine (h1.mono (fun k hk _ => List.mem_cons_of_mem _ hk)).trans' h (fun x hx hlt => ?_)
    rcases List.mem_cons.1 hx with rfl | hx
    · simp
    · rcases List.mem_cons.1 hx with rfl | hx
      · simp
      · rcases (h9 x hx).1 with h | h
        · simp [h]
        · omega
  · rcases hg g hgm with h | h
    · exact h9 g h
    · exact ⟨.inr (by omega), fun hm => by have := h3 g hm; omega, by omega⟩
  · have := h3 k hk
    rcases List.mem_cons.1 hm with rfl | hm
    · omega
    · rcases List.mem_cons.1 hm with rfl | hm
      · omega
      · exact (h9 k hm).2.1 hk
theorem written_le (m : Mk) : (writtenL m).length ≤ 40 := by
  rw [writtenL_eq]
  have h1 := shortL_len m.t
  have h2 := hexedL_length m.r 14
  unfold tPart rPart
  cases m.hasT <;> cases m.hasR <;> simp [Lib.join, h2] <;> omega
theorem written_nil (m : Mk) : writtenL m = [] ↔ m.hasT = false ∧ m.hasR = false := by
  rw [writtenL_eq]
  unfold tPart rPart
  cases m.hasT <;> cases m.hasR <;> simp [Lib.join]
/-- What lies ahead of With's loop. -/
def Mid2 (w : World) (lb : Nat) (v : List UInt8) (m : Int) (W : World) : Prop :=
  ∃ p c L, W.heap[lb]? = some (.cells #[.slice p L.length c] 53 (0, 0)) ∧ SliceIs W 9 1 (strs L) (.slice p L.length c) ∧ dataL L = (if v = [] then [] else [ot ++ [61] ++ v]) ∧ Only [] w W ∧
    (∀ g ∈ blockOf (.slice p L.length c), w.heap.size ≤ g ∧ g ≠ lb) ∧ W.cell? ⟨0, 0, none⟩ = some (.int .i64 m)
theorem membs_len : ∀ {ps : List (List UInt8)} {seen : List (List UInt8)}, (membs seen ps).1.length ≤ ps.length
  | [], seen => by simp [membs]
  | p :: ps, seen => by
    unfold membs
    cases memOne seen p with
    | none => simp
    | some kv => simp only [List.length_cons]; exact Nat.succ_le_succ membs_len

theorem join_len_le {c : UInt8} {n : Nat} : ∀ {L : List (List UInt8)}, (∀ p ∈ L, p.length ≤ n) → (Lib.join L [c]).length ≤ L.length * (n + 1)
  | [], _ => by simp [Lib.join]
  | [x], h => by rw [Lib.join_one]; have := h x (by simp); simp; omega
  | x :: y :: r, h => by
    have ih := @join_len_le c n (y :: r) (fun p hp => h p (List.mem_cons_of_mem _ hp))
    have hx := h x (by simp)
    rw [Lib.join_cons] at ih ⊢
    rw [joinTail_cons]
    simp only [List.length_append, List.length_cons, List.length_nil] at ih ⊢
    have e : (r.length + 1 + 1) * (n + 1) = (r.length + 1) * (n + 1) + (n + 1) := by rw [Nat.succ_mul]
    omega
theorem laid_len {s : List UInt8} {mk : Mk} (h : (readL s).2 = 0) : (laidL s mk).length ≤ 33 ∧ (Lib.join (laidL s mk) [44]).length ≤ 10000 := by
  obtain ⟨h1, h2, h3⟩ := read_ok h
  have h5 := @membs_len (partsC 44 s) []
  have h6 := (@membs_nodup (partsC 44 s) []).2.2
  have h7 := List.length_filter_le (fun kv : KV => decide (kv.1 ≠ ot)) (membs [] (partsC 44 s)).1
  have hl : (laidL s mk).length ≤ 33 := by
    unfold laidL
    rw [List.length_append, List.length_map]
    have : (if writtenL mk = [] then ([] : List (List UInt8)) else [ot ++ [61] ++ writtenL mk]).length ≤ 1 := by split <;> simp
    omega
  refine ⟨hl, Nat.le_trans (join_len_le (n := 261) fun p hp => ?_) (Nat.le_trans (Nat.mul_le_mul_right _ hl) (by omega))⟩
  unfold laidL at hp
  rcases List.mem_append.1 hp with hp | hp
  · split at hp
    · cases hp
    · rw [List.mem_singleton] at hp
      subst hp
      have := written_le mk
      simp only [List.length_append, ot, List.length_cons, List.length_nil]
      omega
  · obtain ⟨kv, hk, rfl⟩ := List.mem_map.1 hp
    have hok := h6 kv (List.mem_filter.1 hk).1
    have hk1 := hok.key
    have hk2 := hok.val
    unfold keyOk at hk1
    unfold valOk at hk2
    simp only [Bool.and_eq_true, decide_eq_true_eq] at hk1 hk2
    unfold kvL
    simp only [List.length_append, List.length_cons, List.length_nil]
    omega

theorem with_end {s : List UInt8} {mk : Mk} {L : List ByteArray} (hread : (readL s).2 = 0) (hg : marksBad mk = false) (hlaid : dataL L = laidL s mk) :
    (L.length ≤ 33 ∧ (Lib.join (dataL L) [44]).length ≤ 10000) ∧ withL s mk = if 512 < (Lib.join (dataL L) [44]).length ∨ 32 < L.length then ([], 3) else (Lib.join (dataL L) [44], 0) := by
  have hll := @laid_len s mk hread
  rw [← hlaid] at hll
  have hLlen : (dataL L).length = L.length := by unfold dataL; rw [List.length_map]
  rw [hLlen] at hll
  refine ⟨hll, ?_⟩
  unfold withL
  rw [if_neg (by rw [hread]; simp), hg, ← hlaid, hLlen]
  rfl

set_option maxRecDepth 100000 in
set_option maxHeartbeats 8000000 in
theorem with_walk (s : ByteArray) (mk : Mk) (m : Int) (w : World) (hs : s.size ≤ 100000) (ht : mk.t < big) (hrr : mk.r < big) (hm : w.cell? ⟨0, 0, none⟩ = some (.int .i64 m)) :
    Calls Tryd.prog 10 #[.string s, .agg (mkArr mk)] w fun e w' => e = .returned (.tuple #[.string ⟨(withL s.data.toList mk).1.toArray⟩, .int .u16 ((withL s.data.toList mk).2 : Nat)]) ∧ Only [] w w' := by
  refine (callsIn_wide (n := 4)).1 ?_
  refine callsIn_of_wp_marks Tryd.func10 rfl trivial ?_ rfl
  simp only [Tryd.ntmps10, List.size_toArray, List.length_cons, List.length_nil, Nat.reduceAdd, Nat.reduceSub, Array.replicate_succ, Array.replicate_zero, List.push_toArray, List.append_toArray, List.nil_append, List.cons_append]
  have oa := (Only.refl [] w).alloc (.cells (mkArr mk) 29)
  have HB := Lib.hid (heap_alloc_new w (.cells (mkArr mk) 29))
  have C := Lib.hid (read_walk s m (w.alloc (.cells (mkArr mk) 29)) hs (oa.cell hm (by simp)))
  have Oa := Lib.hid oa
  have Hw0 := Lib.hid (lt_of_cell hm)
  have Hm := Lib.hid (oa.cell hm (by simp))
  obtain ⟨rd, hrd⟩ : ∃ rd, rd = readL s.data.toList := ⟨_, rfl⟩
  rw [← hrd] at C
  have Hrd := Lib.hid hrd
  have Ht := Lib.hid ht
  have Hrr := Lib.hid hrr
  clear oa hm hrd ht hrr
  obtain ⟨⟨aT, at', aR, ar⟩, en⟩ := rd
  obtain ⟨hT, t, hR, r⟩ := mk
  simp only [mkArr] at *
  gi_wp2_with fail
  generalize w.alloc (.cells #[.bool hT, .int .u64 t, .bool hR, .int .u64 r] 29) = w1 at *
  have Hxl := Lib.hid (lt_of_blk HB.out)
  obtain ⟨xb, hxb⟩ : ∃ xb, xb = w.heap.size := ⟨_, rfl⟩
  rw [← hxb] at HB Hxl ⊢
  have Hxb := Lib.hid hxb
  clear hxb
  refine ⟨trivial, (callsIn_wide.2 C.out).mono ?_⟩
  rintro e w2 ⟨rfl, o2⟩
  have O2 := Lib.hid (Oa.out.trans o2)
  have HB2 := Lib.hid (o2.blk HB.out (by simp))
  have Hm2 := Lib.hid (o2.cell Hm.out (by simp))
  clear o2 C HB Hm Oa Hxl
  by_cases hen : en = 0
  · subst hen
    have xl := lt_of_blk HB2.out
    have x0 : w2.cell? ⟨xb, 0, none⟩ = some (.bool hT) := by rw [cell_of_blk HB2.out]; rfl
    have x1 : w2.cell? ⟨xb, 1, none⟩ = some (.int .u64 t) := by rw [cell_of_blk HB2.out]; rfl
    have x2 : w2.cell? ⟨xb, 2, none⟩ = some (.bool hR) := by rw [cell_of_blk HB2.out]; rfl
    have x3 : w2.cell? ⟨xb, 3, none⟩ = some (.int .u64 r) := by rw [cell_of_blk HB2.out]; rfl
    obtain ⟨V, hV⟩ : ∃ V : ByteArray, V = ⟨(writtenL ⟨hT, t, hR, r⟩).toArray⟩ := ⟨_, rfl⟩
    have CW : Hid (∀ W, Calls Tryd.prog 22 #[.agg #[.bool hT, .int .u64 t, .bool hR, .int .u64 r]] W fun e w' => e = .returned (.string V) ∧ Only [] W w') := Lib.hid (fun W => hV ▸ written_walk ⟨hT, t, hR, r⟩ W Ht.out Hrr.out)
    have hVd : V.data.toList = writtenL ⟨hT, t, hR, r⟩ := by rw [hV]
    have sV : V.size ≤ 40 := by rw [← len_data, hVd]; exact written_le _
    have hVe : Hid (V.data.toList = [] ↔ hT = false ∧ hR = false) := Lib.hid (by rw [hVd]; exact written_nil _)
    have HVd := Lib.hid hVd
    clear hV hVd
    have hM : Hid (∀ a b, ¬ (72057594037927936 ≤ a ∨ 72057594037927936 ≤ b) → decide (72057594037927936 ≤ a) = false ∧ decide (72057594037927936 ≤ b) = false) := Lib.hid (fun a b h => ⟨decide_eq_false (by omega), decide_eq_false (by omega)⟩)
    by_cases hbig : 72057594037927936 ≤ t ∨ 72057594037927936 ≤ r
    · have hmx : decide ((72057594037927936 : Int) ≤ if (t : Int) < r then (r : Int) else t) = true := decide_eq_true (by split <;> omega)
      have hw : withL s.data.toList ⟨hT, t, hR, r⟩ = ([], 1) := by
        unfold withL marksBad
        rw [← Hrd.out, if_neg (by simp), if_pos (by rcases hbig with h | h <;> simp [h])]
      have Hw := Lib.hid hw
      clear hw
      gi_wp2_with fail
      refine ⟨.tuple #[.string ⟨#[]⟩, .int .u16 1], by simp [results, Tryd.results10, go_sem], by rw [Hw.out]; rfl, O2.out.trans ((Only.refl _ _).alloc _)⟩
    · have hmx : decide ((72057594037927936 : Int) ≤ if (t : Int) < r then (r : Int) else t) = false := decide_eq_false (by split <;> omega)
      have hm1 : decide ((72057594037927936 : Int) ≤ t) = false := decide_eq_false (by omega)
      have hm2 : decide ((72057594037927936 : Int) ≤ r) = false := decide_eq_false (by omega)
      by_cases hbad : (hT = false ∧ t ≠ 0) ∨ (hR = false ∧ r ≠ 0)
      · have hw : withL s.data.toList ⟨hT, t, hR, r⟩ = ([], 1) := by
          unfold withL marksBad
          rw [← Hrd.out, if_neg (by simp), if_pos (by rcases hbad with ⟨h1, h2⟩ | ⟨h1, h2⟩ <;> simp [h1, h2])]
        have Hw := Lib.hid hw
        clear hw
        rcases (show (hT = false ∧ t ≠ 0) ∨ (hT = true ∧ hR = false ∧ r ≠ 0) ∨ (hT = false ∧ t = 0 ∧ hR = false ∧ r ≠ 0) by
          cases hT <;> simp at hbad ⊢
          · by_cases h0 : t = 0
            · simp [h0] at hbad ⊢; exact hbad
            · simp [h0]
          · exact hbad) with ⟨rfl, h0⟩ | ⟨rfl, rfl, h0⟩ | ⟨rfl, rfl, rfl, h0⟩
        all_goals clear hbad
        all_goals first
          | (have hq : ((t : Int) != 0) = true := by rw [bne_iff_ne]; omega)
          | (have hq : ((r : Int) != 0) = true := by rw [bne_iff_ne]; omega)
        all_goals first
          | (have hq2 : ((t : Int) == 0) = false := by rw [beq_eq_false_iff_ne]; omega)
          | (have hq2 : ((r : Int) == 0) = false := by rw [beq_eq_false_iff_ne]; omega)
        all_goals (try (have hmy := hmx; simp only [Int.natCast_zero] at hmy))
        all_goals (try (have hmz := hmx; simp only [Int.natCast_zero, Int.natCast_pos] at hmz))
        all_goals gi_wp2_with fail
        all_goals refine ⟨.tuple #[.string ⟨#[]⟩, .int .u16 1], by simp [results, Tryd.results10, go_sem], by rw [Hw.out]; rfl, O2.out.trans ((Only.refl _ _).alloc _)⟩
      · have hgood : marksBad ⟨hT, t, hR, r⟩ = false := by
          unfold marksBad
          simp only [not_or, not_and] at hbad hbig
          obtain ⟨h1, h2⟩ := hbad
          simp only [Bool.or_eq_false_iff, decide_eq_false_iff_not, Bool.and_eq_false_iff, Bool.not_eq_false', bne_eq_false_iff_eq]
          refine ⟨hbig.1, hbig.2, ?_, ?_⟩
          · cases hT <;> simp_all
          · cases hR <;> simp_all
        have Hgood := Lib.hid hgood
        rcases (show (hT = true ∧ hR = true) ∨ (hT = true ∧ hR = false ∧ r = 0) ∨ (hT = false ∧ t = 0 ∧ hR = true) ∨ (hT = false ∧ t = 0 ∧ hR = false ∧ r = 0) by
          cases hT <;> cases hR <;> simp_all) with ⟨rfl, rfl⟩ | ⟨rfl, rfl, rfl⟩ | ⟨rfl, rfl, rfl⟩ | ⟨rfl, rfl, rfl, rfl⟩
        all_goals clear hbad hgood
        all_goals (try (have hmy := hmx; simp only [Int.natCast_zero] at hmy))
        all_goals (try (have hmz := hmx; simp only [Int.natCast_zero, Int.natCast_pos] at hmz))
        all_goals gi_wp2_with fail
        all_goals
          have o3 : Only [] w2 ((w2.alloc (.cells #[.bool aT, .int .u64 at', .bool aR, .int .u64 ar] 29)).alloc (.cells #[.slice none 0 0] 53)) := ((Only.refl _ _).alloc _).alloc _
          have hl3 := heap_alloc_new (w2.alloc (.cells #[.bool aT, .int .u64 at', .bool aR, .int .u64 ar] 29)) (.cells #[.slice none 0 0] 53)
          rw [World.size_alloc] at hl3
          generalize (w2.alloc (.cells #[.bool aT, .int .u64 at', .bool aR, .int .u64 ar] 29)).alloc (.cells #[.slice none 0 0] 53) = w3 at *
          have hlw : w.heap.size < w2.heap.size + 1 := Nat.lt_succ_of_le O2.out.size
          generalize w2.heap.size + 1 = lb at *
          have HL3 := Lib.hid hl3
          have O3 := Lib.hid (O2.out.trans o3)
          have Hm3 := Lib.hid (o3.cell Hm2.out (by simp))
          have Hlw := Lib.hid hlw
          clear o3 hl3 hlw O2 Hm2 HB2 x0 x1 x2 x3 xl hmx hm1 hm2 hbig hM
          refine ⟨trivial, (callsIn_wide.2 (CW.out _)).mono ?_⟩
          rintro e w4 ⟨rfl, o4⟩
          have O4 := Lib.hid (O3.out.trans o4)
          have HL4 := Lib.hid (o4.blk HL3.out (by simp))
          have Hm4 := Lib.hid (o4.cell Hm3.out (by simp))
          have l0 : w4.cell? ⟨lb, 0, none⟩ = some (.slice none 0 0) := by rw [cell_of_blk HL4.out]; rfl
          have lf : w4.frozen? ⟨lb, 0, none⟩ = false := frozen_of_blk HL4.out
          have ll := lt_of_blk HL4.out
          clear o4 HL3 O3 Hm3 CW
        all_goals first
          | (
              have hv : V.data.toList = [] := hVe.out.2 (by simp)
              have hie := isEmpty_data hv
              have hmid : Hid (Mid2 w lb (writtenL ⟨false, 0, false, 0⟩) m w4) := Lib.hid ⟨none, 0, [], HL4.out, .nil, (by rw [← HVd.out, if_pos hv]; try rfl), O4.out, by simp [blockOf], Hm4.out⟩
              gi_wp2_with fail
              obtain ⟨w6, hw6⟩ : ∃ w6, w6 = w4 := ⟨_, rfl⟩
              rw [← hw6]
              rw [← hw6] at hmid
              clear hw6
              clear hv hie l0 lf ll O4 HL4 Hm4
            )
          | (
              have hv : V.data.toList ≠ [] := fun h => by have := hVe.out.1 h; simp at this
              have hie := ne_isEmpty hv
              obtain ⟨g, off, cap', w5, hap, hsl, o5, hg⟩ := str_append (w := w4) (l := []) .nil (by simp) (⟨#[111, 116, 61]⟩ ++ V)
              simp only [List.length_nil, Nat.zero_add, List.nil_append] at hap hsl
              have o5 : Only [] w4 w5 := o5
              have hg : w4.heap.size ≤ g := hg.elim (fun h => by simp [blockOf] at h) id
              have l5 : w5.cell? ⟨lb, 0, none⟩ = some (.slice none 0 0) := o5.cell l0 (by simp)
              have hl5 := o5.blk HL4.out (by simp)
              have lf5 : w5.frozen? ⟨lb, 0, none⟩ = false := frozen_of_blk hl5
              have ll5 := lt_of_blk hl5
              have hs5 := setCell_blk (i := 0) (v := .slice (some ⟨g, off, none⟩) 1 cap') hl5
              have o6 := (Only.refl [lb] w5).setCell (p := ⟨lb, 0, none⟩) (.inl (by simp)) (.slice (some ⟨g, off, none⟩) 1 cap')
              have hsl6 := hsl.only o6 (by simp [blockOf]; omega)
              have hmid : Hid (Mid2 w lb (writtenL ⟨_, _, _, _⟩) m (w5.setCell ⟨lb, 0, none⟩ (.slice (some ⟨g, off, none⟩) 1 cap'))) := Lib.hid ⟨some ⟨g, off, none⟩, cap', [⟨#[111, 116, 61]⟩ ++ V], hs5, hsl6, by
                  rw [← HVd.out, if_neg hv]
                  simp only [dataL, List.map_cons, List.map_nil, cat_data]
                  rfl, (O4.out.trans o5).trans' o6 (fun x hx hlt => by rw [List.mem_singleton] at hx; have := Hlw.out; omega), fun g' hg' => by
                    simp only [blockOf, List.mem_singleton] at hg'
                    subst hg'
                    have := O4.out.size
                    exact ⟨by omega, by omega⟩, o6.cell (o5.cell Hm4.out (by simp)) (by have := Hlw.out; simp; omega)⟩
              clear hsl o5 hg hl5 hs5 o6 hsl6
              gi_wp2_with fail
              have hsz6 : (w5.setCell ⟨lb, 0, none⟩ (.slice (some ⟨g, off, none⟩) 1 cap')).heap.size = w5.heap.size := by simp
              generalize w5.setCell ⟨lb, 0, none⟩ (.slice (some ⟨g, off, none⟩) 1 cap') = w6 at *
              rw [← hsz6]
              clear hap hv hie l0 lf ll l5 lf5 ll5 O4 HL4 Hm4
            )
        all_goals
          obtain ⟨p0, c0, L0, b1, b2, b3, b4, b5, b6⟩ := hmid.out
          have o7 : Only [] w6 (w6.alloc (.cells #[.string s, .bool false] 57)) := (Only.refl _ _).alloc _
          have hsb := heap_alloc_new w6 (.cells #[.string s, .bool false] 57)
          have CM := Lib.hid (members_walk w6.heap.size (w6.alloc (.cells #[.string s, .bool false] 57)))
          have hlb := lt_of_blk b1
          have B1 := Lib.hid (o7.blk b1 (by simp))
          have B2 := Lib.hid (b2.only o7 (by simp))
          have B3 := Lib.hid b3
          have B4 := Lib.hid (b4.trans o7)
          have B5 := Lib.hid (fun g hg => (⟨(b5 g hg).1, (b5 g hg).2, b2.lt g hg⟩ : w.heap.size ≤ g ∧ g ≠ lb ∧ g < w6.heap.size))
          have B6 := Lib.hid (o7.cell b6 (by simp))
          have Hsb := Lib.hid hsb
          have hsz7 : (w6.alloc (.cells #[.string s, .bool false] 57)).heap.size = w6.heap.size + 1 := by simp
          generalize w6.alloc (.cells #[.string s, .bool false] 57) = w7 at *
          have Hsz7 := Lib.hid hsz7
          generalize hsbn : w6.heap.size = sb at *
          have Hlb := Lib.hid hlb
          clear b1 b2 b3 b4 b5 b6 o7 hsb hmid hsz7 hlb hsbn
          refine ⟨trivial, CM.out.mono ?_⟩
          rintro e w8 ⟨rfl, hw8⟩
          have o8 : Only [] w7 w8 := by rw [hw8]; exact (Only.refl _ _).alloc _
          have hbx : w8.heap[w7.heap.size]? = some (.cells #[.pointer (some ⟨sb, 0, none⟩)] 55 (0, 0)) := by rw [hw8]; exact heap_alloc_new _ _
          have B1 := Lib.hid (o8.blk B1.out (by simp))
          have B2 := Lib.hid (B2.out.only o8 (by simp))
          have B4 := Lib.hid (B4.out.trans o8)
          have B6 := Lib.hid (o8.cell B6.out (by simp))
          have Hsb := Lib.hid (o8.blk Hsb.out (by simp))
          have Hbx := Lib.hid hbx
          generalize hbxn : w7.heap.size = bx at *
          have Hsz7 : Hid (bx = sb + 1) := Hsz7
          clear hw8 o8 hbx hbxn CM
          gi_wp2_with fail
          refine rangeFunc_go rfl rfl rfl trivial (enters_of Tryd.func34 (by kernel_rfl) rfl) ?_
          intro fn _ r hr
          obtain ⟨W1, hW1⟩ : ∃ W1, W1 = (w8.alloc (.deferred (some []))).alloc (.loop r) := ⟨_, rfl⟩
          have o1 : Only [] w8 W1 := by rw [hW1]; exact ((Only.refl _ _).alloc _).alloc _
          have hD : W1.heap[w8.heap.size]? = some (.deferred (some [])) := by
            rw [hW1]; exact ((Only.refl [] _).alloc _).blk (heap_alloc_new _ _) (by simp)
          have hL : W1.heap[w8.heap.size + 1]? = some (.loop r) := by
            rw [hW1]; have := heap_alloc_new (w8.alloc (.deferred (some []))) (.loop r); rwa [World.size_alloc] at this
          have hsz1 : W1.heap.size = w8.heap.size + 2 := by rw [hW1]; simp
          rw [← hW1]
          clear hW1
          have B1 := Lib.hid (o1.blk B1.out (by simp))
          have B2 := Lib.hid (B2.out.only o1 (by simp))
          have B4 := Lib.hid (B4.out.trans o1)
          have B6 := Lib.hid (o1.cell B6.out (by simp))
          have hbx8 := lt_of_blk Hbx.out
          have Hsb := Lib.hid (o1.blk Hsb.out (by simp))
          have Hbx := Lib.hid (o1.blk Hbx.out (by simp))
          have HL := Lib.hid (And.intro hD (And.intro hL hsz1))
          have Hr := Lib.hid hr
          generalize hDn : w8.heap.size = D at *
          generalize hLn : D + 1 = l at *
          have HDL := Lib.hid (And.intro hLn hbx8)
          clear o1 hD hL hsz1 hr hDn hLn hbx8
          have hneb : bx ∉ lb :: blockOf (.slice p0 L0.length c0) ∧ sb ∉ lb :: blockOf (.slice p0 L0.length c0) ∧ 0 ∉ lb :: blockOf (.slice p0 L0.length c0) := by
            have h1 := Hsz7.out
            have h2 := Hlb.out
            have h3 := Hlw.out
            have h4 := lt_of_cell B6.out
            refine ⟨fun h => ?_, fun h => ?_, fun h => ?_⟩ <;> rcases List.mem_cons.1 h with h | h
            · omega
            · have := B5.out _ h; omega
            · omega
            · have := B5.out _ h; omega
            · omega
            · have := B5.out _ h; have := Hw0.out; omega
          have IT := Lib.hid (jwith_ok (S0 := blockOf (.slice p0 L0.length c0)) (base := dataL L0) (lt_of_blk B1.out) Hbx.out Hsb.out B6.out hneb.1 hneb.2.1 hneb.2.2)
          have H0 : Hid (JWith lb (blockOf (.slice p0 L0.length c0)) (dataL L0) W1 [] [] W1) := Lib.hid ⟨Only.refl _ _, ⟨p0, c0, L0, B1.out, B2.out, by simp, fun g hg => ⟨.inl hg, by simp, (B5.out g hg).2.1⟩⟩, by simp⟩
          refine (members_it 3 l sb bx s m hs (JWith lb (blockOf (.slice p0 L0.length c0)) (dataL L0) W1) (fun _ => False) IT.out ?yield W1 H0.out).mono ?behind
          case yield =>
            intro pre x X W hJ hp
            obtain ⟨g1, ⟨p, c, L, g2, g3, g4, g5⟩, g6⟩ := hJ
            have hls : lb < sb ∧ sb < bx ∧ bx < D ∧ l = D + 1 ∧ W1.heap.size = D + 2 := ⟨Hlb.out, by have := Hsz7.out; omega, HDL.out.2, HDL.out.1.symm, HL.out.2.2⟩
            have hgl : ∀ g ∈ blockOf (.slice p L.length c), g ≠ l := fun g hg => by
              rcases (g5 g hg).1 with h | h
              · have := B5.out g h; omega
              · omega
            have hl := g1.blk HL.out.2.1 (fun h => by
              rcases List.mem_cons.1 h with h | h
              · omega
              · have := B5.out _ h; omega)
            have hvs := val_size hp
            have hLn : L.length ≤ 40 := by
              have h1 := congrArg List.length g4
              have h2 := congrArg List.length B3.out
              unfold dataL at h1 h2
              rw [List.length_append, List.length_map, List.length_map, List.length_map] at h1
              rw [List.length_map] at h2
              have h3 := List.length_filter_le (fun kv : KV => decide (kv.1 ≠ ot)) (pre.map dataKV)
              obtain ⟨tl, htl⟩ := hp
              have h4 := congrArg List.length htl
              have h5 := @membs_len (partsC 44 s.data.toList) []
              have h6 := (read_ok (s := s.data.toList) (by rw [← Hrd.out])).2.1
              simp only [List.length_append, List.length_map, List.length_cons, List.length_nil] at h4
              rw [List.length_map] at h3
              have h7 : L0.length ≤ 1 := by rw [h2]; split <;> simp
              omega
            have ea := congrArg Loop.assign Hr.out
            have eb := congrArg Loop.body Hr.out
            have et := congrArg Loop.tmps Hr.out
            have ep := congrArg Loop.params Hr.out
            dsimp only at ea eb et ep
            have Eb := Lib.hid eb
            have Ea := Lib.hid ea
            have Et := Lib.hid et
            have Ep := Lib.hid ep
            clear ea eb et ep
            apply yield_go2 (r := r) hl (by rw [Hr.out]) (by rw [Hr.out]; rfl) trivial
            case hassign =>
              intro K hK
              rw [Ea.out, Et.out, Ep.out]
              gi_wp2_with fail
              exact hK
            case hbody =>
              have o2 := only_putObj W l (.loop { r with state := .busy })
              have hl2 := putObj_same (o' := .loop { r with state := .busy }) hl
              have hlb2 := putObj_other (o' := .loop { r with state := .busy }) g2 (show lb ≠ l by omega)
              generalize W.putObj l (.loop { r with state := .busy }) = W2 at *
              rw [Eb.out]
              have g32 := g3.only o2 (fun b hb => by simpa using hgl b hb)
              have her : ({ r with state := .ready, pending := none } : Loop) = r := by rw [Hr.out]
              have Her := Lib.hid her
              have HG := Lib.hid (And.intro g1 (And.intro g4 (And.intro g5 g6)))
              have HH := Lib.hid (And.intro hls (And.intro hgl (And.intro hl hl2)))
              have O2 := Lib.hid o2
              have Hlb2 := Lib.hid hlb2
              have G32 := Lib.hid g32
              have Hvs := Lib.hid hvs
              have HLn := Lib.hid hLn
              have Hp := Lib.hid hp
              clear her g1 g2 g3 g4 g5 g6 o2 hl hl2 hls hgl hlb2 g32 hvs hLn hp Ea Eb Et Ep IT H0
              by_cases hx : x.1.data.toList = ot
              · have b1 : (x.1.toList == [111, 116]) = true := by rw [Lib.toList_data, hx]; rfl
                have Hx := Lib.hid hx
                clear hx
                gi_wp2_with fail
                refine ⟨HH.out.2.2.2, rfl, ?_⟩
                rw [Her.out]
                have hls := HH.out.1
                exact jwith_next (pre := pre) (p' := p) (c' := c) (L' := L) HG.out.1 HG.out.2.2.1 HG.out.2.2.2 (by omega) (by omega) ((O2.out.mono (fun k hk _ => by simp only [List.mem_singleton] at hk; simp [hk])).putObj (.inl (by simp)) _) ((putObj_same HH.out.2.2.2).trans HL.out.2.1.symm) (putObj_other Hlb2.out (by omega)) (G32.out.only (only_putObj _ _ _) (fun b hb => by simpa using HH.out.2.1 b hb))
                  (by rw [HG.out.2.1, List.map_append, List.filter_append]; simp [dataKV, Hx.out]) (fun g hg => .inl hg)
              · have b1 : (x.1.toList == [111, 116]) = false := by
                  rw [Lib.toList_data]
                  simpa using (show x.1.data.toList ≠ [111, 116] from hx)
                have Hx := Lib.hid hx
                obtain ⟨gn, offn, capn, w9, hap, hsl, o9, hgn⟩ := str_append G32.out (by have := HLn.out; omega) (x.1 ++ ⟨#[61]⟩ ++ x.2)
                have l2 : W2.cell? ⟨lb, 0, none⟩ = some (.slice p L.length c) := by rw [cell_of_blk Hlb2.out]; rfl
                have hlb9 := o9.blk Hlb2.out (fun h => (HG.out.2.2.1 _ h).2.2 rfl)
                have l9 : w9.cell? ⟨lb, 0, none⟩ = some (.slice p L.length c) := by rw [cell_of_blk hlb9]; rfl
                have f9 : w9.frozen? ⟨lb, 0, none⟩ = false := frozen_of_blk hlb9
                have ll2 := lt_of_blk Hlb2.out
                have ll9 := lt_of_blk hlb9
                have s1 := Hvs.out.1
                have s2 := Hvs.out.2
                have H9 := Lib.hid (And.intro hsl (And.intro o9 (And.intro hgn hlb9)))
                clear hx hsl o9 hgn hlb9
                gi_wp2_with fail
                obtain ⟨hsl, o9, hgn, hlb9⟩ := H9.out
                have hls := HH.out.1
                have hlen : (L ++ [x.1 ++ ⟨#[61]⟩ ++ x.2]).length = L.length + 1 := by simp
                have hs10 := setCell_blk (i := 0) (v := .slice (some ⟨gn, offn, none⟩) (L.length + 1) capn) hlb9
                have o10 := (Only.refl [lb] w9).setCell (p := ⟨lb, 0, none⟩) (.inl (by simp)) (.slice (some ⟨gn, offn, none⟩) (L.length + 1) capn)
                have hl10 := o10.blk (o9.blk HH.out.2.2.2 (fun h => HH.out.2.1 _ h rfl)) (by simp; omega)
                have hgl2 : ∀ g ∈ blockOf (.slice (some ⟨gn, offn, none⟩) (L.length + 1) capn), g ≠ lb ∧ g ≠ l ∧ (g ∈ blockOf (.slice p L.length c) ∨ W.heap.size ≤ g) := fun g hg => by
                  simp only [blockOf, List.mem_singleton] at hg
                  subst hg
                  have hz := O2.out.size
                  rcases hgn with h | h
                  · exact ⟨(HG.out.2.2.1 _ h).2.2, HH.out.2.1 _ h, .inl h⟩
                  · exact ⟨by have := lt_of_blk Hlb2.out; omega, by have := lt_of_blk HH.out.2.2.2; omega, .inr (by omega)⟩
                refine ⟨hl10, rfl, ?_⟩
                rw [Her.out]
                exact jwith_next (pre := pre) (p' := some ⟨gn, offn, none⟩) (c' := capn) (L' := L ++ [x.1 ++ ⟨#[61]⟩ ++ x.2]) HG.out.1 HG.out.2.2.1 HG.out.2.2.2 (by omega) (by omega)
                  ((((O2.out.mono (fun k hk _ => by simp only [List.mem_singleton] at hk; simp [hk])).trans (o9.mono (fun k hk _ => by simp [hk]))).trans (o10.mono (fun k hk _ => by simp only [List.mem_singleton] at hk; simp [hk]))).putObj (.inl (by simp)) _)
                  ((putObj_same hl10).trans HL.out.2.1.symm) (by rw [hlen]; exact putObj_other hs10 (by omega)) (by rw [hlen]; exact (hsl.only o10 (fun b hb => by simpa using (hgl2 b hb).1)).only (only_putObj _ _ _) (fun b hb => by simpa using (hgl2 b hb).2.1))
                  (by
                    have hd := HG.out.2.1
                    unfold dataL at hd ⊢
                    rw [List.map_append, hd, List.map_append, List.filter_append, List.map_append, ← List.append_assoc]
                    congr 1
                    simp [dataKV, kvL, Hx.out]) (by rw [hlen]; exact fun g hg => (hgl2 g hg).2.2)
          case behind =>
            rintro e W ⟨⟨v, rfl⟩, (⟨hb, xs, X, hxs, hJ⟩ | ⟨hb, _⟩ | hX)⟩
            · obtain ⟨g1, ⟨p, c, L, g2, g3, g4, g5⟩, g6⟩ := hJ
              have hls : lb < sb ∧ sb < bx ∧ bx < D ∧ l = D + 1 ∧ W1.heap.size = D + 2 := ⟨Hlb.out, by have := Hsz7.out; omega, HDL.out.2, HDL.out.1.symm, HL.out.2.2⟩
              have hgl : ∀ g ∈ blockOf (.slice p L.length c), g ≠ l := fun g hg => by
                rcases (g5 g hg).1 with h | h
                · have := B5.out g h; omega
                · omega
              have hnS : ∀ k, sb < k → k < W1.heap.size → k ∉ lb :: blockOf (.slice p0 L0.length c0) := fun k h1 h2 h => by
                rcases List.mem_cons.1 h with h | h
                · omega
                · have := B5.out _ h; omega
              have hl := g1.blk HL.out.2.1 (hnS l (by omega) (by omega))
              have hD := g1.blk HL.out.1 (hnS D (by omega) (by omega))
              have es := congrArg Loop.state Hr.out
              have ep := congrArg Loop.pending Hr.out
              dsimp only at es ep
              refine ⟨v, r, rfl, hl, (fun h => by rw [es] at h; cases h), (fun _ => ?_), (fun c h => by rw [ep] at h; cases h)⟩
              clear es ep
              have oW := (g1.mono (S' := l :: lb :: blockOf (.slice p0 L0.length c0)) (fun k hk _ => List.mem_cons_of_mem _ hk)).putObj (l := l) (.inl (by simp)) (.loop { r with state := .exhausted })
              have hb5 := putObj_other (o' := .loop { r with state := .exhausted }) g2 (show lb ≠ l by omega)
              have hs5 := g3.only (only_putObj W l (.loop { r with state := .exhausted })) (fun b hb => by simpa using hgl b hb)
              have hD5 := putObj_other (o' := .loop { r with state := .exhausted }) hD (show D ≠ l by omega)
              generalize World.putObj _ l (.loop { r with state := .exhausted }) = W5 at *
              obtain ⟨hll, hwith⟩ := with_end (by rw [← Hrd.out]) Hgood.out (by rw [g4, B3.out, hxs]; rfl)
              have CJ := Lib.hid (join_walk hs5 44 (by omega) (by omega))
              have hO5 : Only [] w W5 := B4.out.trans' oW (fun x hx hlt => by
                have := B4.out.size
                have e1 := Hlw.out
                rcases List.mem_cons.1 hx with rfl | hx
                · omega
                · rcases List.mem_cons.1 hx with rfl | hx
                  · omega
                  · have := B5.out x hx; omega)
              obtain ⟨J, hJd⟩ : ∃ J : ByteArray, J = ⟨(Lib.join (dataL L) [44]).toArray⟩ := ⟨_, rfl⟩
              rw [← hJd] at CJ
              have hJs : J.data.toList = Lib.join (dataL L) [44] := by rw [hJd]
              rw [← hJs] at hwith
              rw [len_data] at hwith
              have Hwith := Lib.hid hwith
              have HO5 := Lib.hid hO5
              have Hb5 := Lib.hid hb5
              have HD5 := Lib.hid hD5
              have hL33 : (L.length : Int) ≤ 33 := by omega
              have HwD := Lib.hid (show w.heap.size ≤ D by have := Hlw.out; omega)
              have c5 : W5.cell? ⟨lb, 0, none⟩ = some (.slice p L.length c) := by rw [cell_of_blk hb5]; rfl
              have lt5 := lt_of_blk hb5
              clear g1 g2 g3 g4 g5 g6 hls hgl hnS hl hD oW hb5 hs5 hD5 hll hwith hO5 hJd hJs hxs hb Hr IT H0 HL B1 B2 B3 B4 B5 B6 Hsb Hbx
              gi_wp2_with fail
              refine ⟨trivial, (callsIn_wide.2 CJ.out).mono ?_⟩
              rintro e w6 ⟨rfl, o6⟩
              have hb6 := o6.blk Hb5.out (by simp)
              have c6 : w6.cell? ⟨lb, 0, none⟩ = some (.slice p L.length c) := by rw [cell_of_blk hb6]; rfl
              have lt6 := lt_of_blk hb6
              have HD6 := Lib.hid (o6.blk HD5.out (by simp))
              have HO6 := Lib.hid (HO5.out.trans o6)
              clear c5 lt5 o6 hb6 CJ
              by_cases h512 : 512 < J.size
              · have d1 : decide ((512 : Int) < J.size) = true := decide_eq_true (by omega)
                have hw := Hwith.out
                rw [if_pos (.inl h512)] at hw
                have Hw := Lib.hid hw
                clear hw
                clear h512
                gi_wp2_with fail
                refine ⟨by simp, .inl ⟨_, _, rfl, run_takeDeferred HD6.out, ?_⟩⟩
                exact ⟨.tuple #[.string ⟨#[]⟩, .int .u16 3], by simp [results, Tryd.results10, go_sem], by rw [Hw.out]; rfl, HO6.out.putObj (.inr HwD.out) _⟩
              · have d1 : decide ((512 : Int) < J.size) = false := decide_eq_false (by omega)
                by_cases h32 : 32 < L.length
                · have d2 : decide ((32 : Int) < L.length) = true := decide_eq_true (by omega)
                  have hw := Hwith.out
                  rw [if_pos (.inr h32)] at hw
                  have Hw := Lib.hid hw
                  clear hw
                  clear h512 h32
                  gi_wp2_with fail
                  refine ⟨by simp, .inl ⟨_, _, rfl, run_takeDeferred HD6.out, ?_⟩⟩
                  exact ⟨.tuple #[.string ⟨#[]⟩, .int .u16 3], by simp [results, Tryd.results10, go_sem], by rw [Hw.out]; rfl, HO6.out.putObj (.inr HwD.out) _⟩
                · have d2 : decide ((32 : Int) < L.length) = false := decide_eq_false (by omega)
                  have hw := Hwith.out
                  rw [if_neg (by omega)] at hw
                  have Hw := Lib.hid hw
                  clear hw
                  clear h512 h32
                  gi_wp2_with fail
                  refine ⟨by simp, .inl ⟨_, _, rfl, run_takeDeferred HD6.out, ?_⟩⟩
                  exact ⟨.tuple #[.string J, .int .u16 0], by simp [results, Tryd.results10, go_sem], by rw [Hw.out]; rfl, HO6.out.putObj (.inr HwD.out) _⟩
            · exact absurd hb (by rw [(read_ok (s := s.data.toList) (by rw [← Hrd.out])).2.2]; simp)
            · exact hX.elim
  · have hw : withL s.data.toList ⟨hT, t, hR, r⟩ = ([], en) := by
      unfold withL
      rw [← Hrd.out, if_pos hen]
    have Hw := Lib.hid hw
    have he : ¬ ((en : Int) = 0) := by omega
    have he2 : ((en : Int) == 0) = false := by rw [beq_eq_false_iff_ne]; omega
    have he3 : ((en : Int) != 0) = true := by rw [bne_iff_ne]; omega
    clear hw
    gi_wp2_with fail
    refine ⟨.tuple #[.string ⟨#[]⟩, .int .u16 en], by simp [results, Tryd.results10, go_sem], by rw [Hw.out], O2.out.trans ((Only.refl _ _).alloc _)⟩

end Go.Proofs.YtfnbkcdcdeojfaaDoor
