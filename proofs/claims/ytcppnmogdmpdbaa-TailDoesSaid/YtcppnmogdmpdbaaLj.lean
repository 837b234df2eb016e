/- One deed with both: a decision; any deed. -/
import Derived.Test.YtcppnmogdmpdbaaLi
import Derived.Deep.RegionHeld3
set_option linter.unusedVariables false
set_option linter.unusedSimpArgs false
namespace Go.Proofs.Ytcppnmogdmpdbaa
open Go.RowKit Go.Mk Go.Hp
attribute [-go_sem] Builtin.append_

theorem bool_facts2 (q : Nat) (kb : Bool) (h : kb = decide (q = 0)) : ((q : Int) == 0) = kb ∧ decide ((q : Int) = 0) = kb ∧ (q == 0) = kb := by
  subst h
  refine ⟨?_, ?_, ?_⟩
  · by_cases h : q = 0
    · subst h; rfl
    · rw [decide_eq_false h]; simp; omega
  · by_cases h : q = 0
    · subst h; rfl
    · rw [decide_eq_false h]; exact decide_eq_false (by omega)
  · by_cases h : q = 0
    · subst h; rfl
    · rw [decide_eq_false h]; simp; omega

section
variable {w0 w : World} {X : List Nat} {tp : Nat} {ms wt ch nw cm : Int} {lp kp : Option Addr} {lc kc : Nat} {P : List (Ab × Value)} {K : List Dec}

set_option maxRecDepth 100000 in
set_option maxHeartbeats 8000000 in
theorem does_decide (h : Both w0 X w tp ms wt ch nw cm K P (.slice lp P.length lc) (.slice kp K.length kc)) (x y t m n : Int) (hx : 0 ≤ x ∧ x ≤ 255) (ht : 0 ≤ t ∧ t ≤ 255) (hm : 0 ≤ m ∧ m ≤ 255) (hc : cm < 1000000) (hch : ch ≤ 5000) (hq : x.tmod 5 = 4) :
    Calls Try.prog 40 #[.pointer (some ⟨tp, 0, none⟩), .agg #[.int .i64 ms, .int .i64 wt, .int .i64 ch, .int .i64 nw, .int .i64 cm, .slice lp P.length lc, .slice kp K.length kc], .int .i64 n, .agg #[.int .u8 x, .int .u8 y, .int .u8 t, .int .u8 m]] w fun e w' => DoesPost (rbl P (.slice lp P.length lc) (.slice kp K.length kc)) w0 X w tp ms wt ch nw cm e w' := by
  obtain ⟨w1, hww⟩ : ∃ w1, w1 = (((w.alloc (.cells #[.int .i64 ms, .int .i64 wt, .int .i64 ch, .int .i64 nw, .int .i64 cm, .slice lp P.length lc, .slice kp K.length kc] 88)).alloc (.cells #[.int .u8 x, .int .u8 y, .int .u8 t, .int .u8 m] 74)).alloc (.cells #[.int .i64 0, .int .i64 0, .int .i64 0, .int .i64 0, .int .i64 0, .slice none 0 0, .slice none 0 0] 88)) := ⟨_, rfl⟩
  have o1 : Only [] w w1 := by rw [hww]; exact (((Only.refl _ _).alloc _).alloc _).alloc _
  obtain ⟨b, hb⟩ : ∃ b, b = w.heap.size := ⟨_, rfl⟩
  obtain ⟨b1, hb1⟩ : ∃ b1, b1 = b + 1 := ⟨_, rfl⟩
  obtain ⟨b2, hb2⟩ : ∃ b2, b2 = b + 1 + 1 := ⟨_, rfl⟩
  have k0 : w1.heap[b]? = some (.cells #[.int .i64 ms, .int .i64 wt, .int .i64 ch, .int .i64 nw, .int .i64 cm, .slice lp P.length lc, .slice kp K.length kc] 88 (0, 0)) := by
    rw [hww, hb]; exact (((Only.refl [] _).alloc _).alloc _).blk (heap_alloc_new w _) (by simp)
  have k1 : w1.heap[b1]? = some (.cells #[.int .u8 x, .int .u8 y, .int .u8 t, .int .u8 m] 74 (0, 0)) := by
    rw [hww, hb1, hb]
    refine ((Only.refl [] _).alloc _).blk ?_ (by simp)
    have h1 := heap_alloc_new (w.alloc (.cells #[.int .i64 ms, .int .i64 wt, .int .i64 ch, .int .i64 nw, .int .i64 cm, .slice lp P.length lc, .slice kp K.length kc] 88)) (.cells #[.int .u8 x, .int .u8 y, .int .u8 t, .int .u8 m] 74)
    rw [show (w.alloc (.cells #[.int .i64 ms, .int .i64 wt, .int .i64 ch, .int .i64 nw, .int .i64 cm, .slice lp P.length lc, .slice kp K.length kc] 88)).heap.size = w.heap.size + 1 by simp] at h1
    exact h1
  have k2 : w1.heap[b2]? = some (.cells #[.int .i64 0, .int .i64 0, .int .i64 0, .int .i64 0, .int .i64 0, .slice none 0 0, .slice none 0 0] 88 (0, 0)) := by
    rw [hww, hb2, hb]
    have h1 := heap_alloc_new ((w.alloc (.cells #[.int .i64 ms, .int .i64 wt, .int .i64 ch, .int .i64 nw, .int .i64 cm, .slice lp P.length lc, .slice kp K.length kc] 88)).alloc (.cells #[.int .u8 x, .int .u8 y, .int .u8 t, .int .u8 m] 74)) (.cells #[.int .i64 0, .int .i64 0, .int .i64 0, .int .i64 0, .int .i64 0, .slice none 0 0, .slice none 0 0] 88)
    rw [show ((w.alloc (.cells #[.int .i64 ms, .int .i64 wt, .int .i64 ch, .int .i64 nw, .int .i64 cm, .slice lp P.length lc, .slice kp K.length kc] 88)).alloc (.cells #[.int .u8 x, .int .u8 y, .int .u8 t, .int .u8 m] 74)).heap.size = w.heap.size + 1 + 1 by simp] at h1
    exact h1
  have hw3 : w1.heap.size = b + 3 := by rw [hww, hb]; simp
  obtain ⟨s, hs⟩ : ∃ s, s = ofSp t m := ⟨_, rfl⟩
  have co := of_walk x y t m w1 ht hm
  rw [← hs] at co
  unfold Sp.arr at co
  have CO := Lib.hid co
  have HB := Lib.hid (And.intro o1 (And.intro k0 (And.intro k1 k2)))
  have Hsz := Lib.hid (show w.heap.size = b ∧ b1 = b + 1 ∧ b2 = b + 2 ∧ w1.heap.size = b + 3 from ⟨hb.symm, hb1, hb2, hw3⟩)
  have H := Lib.hid h
  have Hsm := Lib.hid h.k.small
  have Hdu := Lib.hid h.k.dues
  have Hdec := Lib.hid h.k.dec
  obtain ⟨hx0, hx1⟩ := hx
  obtain ⟨hm0, hm1⟩ := hm
  clear h co ht hs hw3
  go_enter Try.func40, Try.ntmps40
  go_wp2_with fail
  rw [← hww, ← hb, ← hb2, ← hb1]
  have d0 : w1.cell? ⟨b1, 0, none⟩ = some (.int .u8 x) := blk_cells k1 0 _ rfl
  have d1 : w1.cell? ⟨b1, 1, none⟩ = some (.int .u8 y) := blk_cells k1 1 _ rfl
  have d2 : w1.cell? ⟨b1, 2, none⟩ = some (.int .u8 t) := blk_cells k1 2 _ rfl
  have d3 : w1.cell? ⟨b1, 3, none⟩ = some (.int .u8 m) := blk_cells k1 3 _ rfl
  have l1 : b1 < w1.heap.size := lt_of_blk k1
  clear hww hb hb1 hb2 k0 k1 k2
  refine CO.out.mono ?_
  rintro e w2 ⟨rfl, o2⟩
  have j0 := o2.blk HB.out.2.1 (by simp)
  have j1 := o2.blk HB.out.2.2.1 (by simp)
  have j2 := o2.blk HB.out.2.2.2 (by simp)
  have l0' : b < w2.heap.size := lt_of_blk j0
  have l1' : b1 < w2.heap.size := lt_of_blk j1
  have l2' : b2 < w2.heap.size := lt_of_blk j2
  have c0 : w2.cell? ⟨b, 0, none⟩ = some (.int .i64 ms) := blk_cells j0 0 _ rfl
  have c1 : w2.cell? ⟨b, 1, none⟩ = some (.int .i64 wt) := blk_cells j0 1 _ rfl
  have c2 : w2.cell? ⟨b, 2, none⟩ = some (.int .i64 ch) := blk_cells j0 2 _ rfl
  have c3 : w2.cell? ⟨b, 3, none⟩ = some (.int .i64 nw) := blk_cells j0 3 _ rfl
  have c4 : w2.cell? ⟨b, 4, none⟩ = some (.int .i64 cm) := blk_cells j0 4 _ rfl
  have c5 : w2.cell? ⟨b, 5, none⟩ = some (.slice lp P.length lc) := blk_cells j0 5 _ rfl
  have c6 : w2.cell? ⟨b, 6, none⟩ = some (.slice kp K.length kc) := blk_cells j0 6 _ rfl
  have e0 : w2.cell? ⟨b1, 0, none⟩ = some (.int .u8 x) := blk_cells j1 0 _ rfl
  have e1 : w2.cell? ⟨b1, 1, none⟩ = some (.int .u8 y) := blk_cells j1 1 _ rfl
  have e2 : w2.cell? ⟨b1, 2, none⟩ = some (.int .u8 t) := blk_cells j1 2 _ rfl
  have e3 : w2.cell? ⟨b1, 3, none⟩ = some (.int .u8 m) := blk_cells j1 3 _ rfl
  obtain ⟨w3, hw3⟩ : ∃ w3, w3 = w2.alloc (.cells #[.int .u64 s.tr.1, .int .u64 s.tr.2, .int .u64 s.id, .int .u64 s.par, .string s.nm, .int .i64 s.st, .int .i64 s.en, .bool s.bad, .slice none 0 0, .int .u64 s.rv] 65) := ⟨_, rfl⟩
  have o23 : Only [] w2 w3 := by rw [hw3]; exact (Only.refl _ _).alloc _
  have k3 : w3.heap[w2.heap.size]? = some (.cells #[.int .u64 s.tr.1, .int .u64 s.tr.2, .int .u64 s.id, .int .u64 s.par, .string s.nm, .int .i64 s.st, .int .i64 s.en, .bool s.bad, .slice none 0 0, .int .u64 s.rv] 65 (0, 0)) := by rw [hw3]; exact heap_alloc_new w2 _
  have O3 := Lib.hid (HB.out.1.trans (o2.trans o23))
  have HJ := Lib.hid (And.intro (o23.blk j0 (by simp)) (And.intro (o23.blk j1 (by simp)) (And.intro (o23.blk j2 (by simp)) k3)))
  have Hs3 := Lib.hid (show w3.heap.size = w2.heap.size + 1 ∧ w1.heap.size ≤ w2.heap.size by rw [hw3]; exact ⟨by simp, o2.size⟩)
  have r3 := H.out.r.only O3.out (by simp)
  have HR3 := Lib.hid r3
  clear o2 j0 j1 j2 o23 k3 d0 d1 d2 d3 l1 CO
  obtain ⟨hp1, hp2, hp3, hp4, hp5, hp6, hp7, hp8, hp9⟩ := Hsm.out
  have HKn := Lib.hid (show K.length ≤ 5000 by have := Hdec.out.le; omega)
  obtain ⟨q, hq0⟩ : ∃ q : Nat, m % 2 = q := ⟨(m % 2).toNat, by omega⟩
  have hu2 : m.tmod 2 = q := by rw [Int.tmod_eq_emod_of_nonneg hm0]; exact hq0
  have hq2 : (q : Int) < 2 := by omega
  obtain ⟨kb, hkb⟩ : ∃ kb, kb = decide (q = 0) := ⟨_, rfl⟩
  obtain ⟨f1, f2, f3⟩ := bool_facts2 q kb hkb
  have hY : ∀ x ∈ [b, b1, b2, w2.heap.size], w.heap.size ≤ x ∧ x < w3.heap.size := by
    intro x hx
    have h1 := Hsz.out
    have h2 := Hs3.out
    simp only [List.mem_cons, List.not_mem_nil, or_false] at hx
    rcases hx with rfl | rfl | rfl | rfl <;> omega
  have KR := Both.ready H.out O3.out r3 (fun x hx => .inl hx) hY
  have HK := Lib.hid (kobj_Decide KR s.tr.1 s.tr.2 kb hch)
  obtain ⟨K', hK'⟩ : ∃ K', decK (s.tr.1, s.tr.2) kb ch K = K' := ⟨_, rfl⟩
  rw [hK'] at HK
  have HK'n := Lib.hid (show K'.length ≤ 5000 by have := (Hdec.out.dec (s.tr.1, s.tr.2) kb).le; rw [hK'] at this; omega)
  have HKe := Lib.hid (And.intro hK' hp6)
  clear KR hY hK' hkb hq0 hp1 hp2 hp3 hp4 hp5 hp6 r3
  go_wp2_with fail
  rw [← hw3]
  refine HK.out.mono ?_
  rintro e w4 ⟨rfl, hk4, hx4⟩
  have n0 := (hx4 b (by simp)).trans HJ.out.1
  have n1 := (hx4 b1 (by simp)).trans HJ.out.2.1
  have n2 := (hx4 b2 (by simp)).trans HJ.out.2.2.1
  have n3 := (hx4 w2.heap.size (by simp)).trans HJ.out.2.2.2
  have r4 : RefB w4 (.slice lp P.length lc) (.slice kp K.length kc) P K := HR3.out.keep (fun x hx => hx4 x (List.mem_append.2 (.inr (List.mem_append.2 (.inl hx)))))
  have HC := Lib.hid (ref13_Decide r4 HKn.out (HKe.out.2) ms wt nw cm s.tr.1 s.tr.2 kb)
  have a0 : w4.cell? ⟨b, 0, none⟩ = some (.int .i64 ms) := blk_cells n0 0 _ rfl
  have a1 : w4.cell? ⟨b, 1, none⟩ = some (.int .i64 wt) := blk_cells n0 1 _ rfl
  have a2 : w4.cell? ⟨b, 2, none⟩ = some (.int .i64 ch) := blk_cells n0 2 _ rfl
  have a3 : w4.cell? ⟨b, 3, none⟩ = some (.int .i64 nw) := blk_cells n0 3 _ rfl
  have a4 : w4.cell? ⟨b, 4, none⟩ = some (.int .i64 cm) := blk_cells n0 4 _ rfl
  have a5 : w4.cell? ⟨b, 5, none⟩ = some (.slice lp P.length lc) := blk_cells n0 5 _ rfl
  have a6 : w4.cell? ⟨b, 6, none⟩ = some (.slice kp K.length kc) := blk_cells n0 6 _ rfl
  have p3 : w4.cell? ⟨b1, 3, none⟩ = some (.int .u8 m) := blk_cells n1 3 _ rfl
  have u0 : w4.cell? ⟨w2.heap.size, 0, none⟩ = some (.int .u64 s.tr.1) := blk_cells n3 0 _ rfl
  have u1 : w4.cell? ⟨w2.heap.size, 1, none⟩ = some (.int .u64 s.tr.2) := blk_cells n3 1 _ rfl
  have v0 : b < w4.heap.size := lt_of_blk n0
  have v1 : b1 < w4.heap.size := lt_of_blk n1
  have v3 : w2.heap.size < w4.heap.size := lt_of_blk n3
  have HM := Lib.hid (And.intro n2 (And.intro n3 (And.intro r4 (And.intro hk4 hx4))))
  clear n0 n1 n2 n3 r4 hk4 hx4 HK hw3
  go_wp2_with fail
  refine HC.out.mono ?_
  rintro e w5 ⟨g, nk, kc', rfl, hsl, o5, hnew⟩
  rw [HKe.out.1] at hsl
  obtain ⟨g2, c2, hform⟩ := hsl.form
  have hnk := (Value.slice.inj hform).2.1
  rw [List.length_map] at hnk
  clear hform
  subst hnk
  obtain ⟨w6, hw6⟩ : ∃ w6, w6 = w5.alloc (.cells #[.int .i64 ms, .int .i64 wt, .int .i64 ch, .int .i64 nw, .int .i64 cm, .slice lp P.length lc, .slice g K'.length kc'] 88) := ⟨_, rfl⟩
  have o56 : Only [] w5 w6 := by rw [hw6]; exact (Only.refl _ _).alloc _
  have k6 : w6.heap[w5.heap.size]? = some (.cells #[.int .i64 ms, .int .i64 wt, .int .i64 ch, .int .i64 nw, .int .i64 cm, .slice lp P.length lc, .slice g K'.length kc'] 88 (0, 0)) := by rw [hw6]; exact heap_alloc_new w5 _
  have hs6 : w6.heap.size = w5.heap.size + 1 := by rw [hw6]; simp
  have o46 := o5.trans o56
  have r6 : RefB w6 (.slice lp P.length lc) (.slice g K'.length kc') P K' := ⟨(HM.out.2.2.1.l).only o46 (by simp), fun p hp => (HM.out.2.2.1.s p hp).only o46 (by simp), hsl.only o56 (by simp)⟩
  have hY2 : ∀ x ∈ [b, b1, b2, w2.heap.size, w5.heap.size], x < w6.heap.size := by
    intro x hx
    have h1 := Hsz.out
    have h2 := Hs3.out
    have h3 := o5.size
    simp only [List.mem_cons, List.not_mem_nil, or_false] at hx
    rcases hx with rfl | rfl | rfl | rfl | rfl <;> omega
  have hrbk : ∀ x ∈ rbl P (.slice lp P.length lc) (.slice g K'.length kc'), x ∈ rbl P (.slice lp P.length lc) (.slice kp K.length kc) ∨ w4.heap.size ≤ x := fun x hx => by
    rcases mem_rbl.1 hx with h | h | h
    · exact .inl (mem_rbl.2 (.inl h))
    · exact .inr (hnew x h)
    · exact .inl (mem_rbl.2 (.inr (.inr h)))
  have hk6 : KObj w0 ([b, b1, b2, w2.heap.size, w5.heap.size] ++ (rbl P (.slice lp P.length lc) (.slice g K'.length kc') ++ X)) w6 tp ms wt ch nw cm K' (P.map (·.1)) := by
    refine HM.out.2.2.2.1.swap o46 (by simp) (by simp) (fun x hx => ?_) (fun x hx => ?_)
    · rcases List.mem_append.1 hx with hx | hx
      · simp only [List.mem_cons, List.not_mem_nil, or_false] at hx
        rcases hx with rfl | rfl | rfl | rfl | rfl
        · simp
        · simp
        · simp
        · simp
        · exact .inr o5.size
      · rcases List.mem_append.1 hx with hx | hx
        · exact (hrbk x hx).imp (fun h => List.mem_append.2 (.inr (List.mem_append.2 (.inl h)))) id
        · exact .inl (List.mem_append.2 (.inr (List.mem_append.2 (.inr hx))))
    · rcases List.mem_append.1 hx with hx | hx
      · exact hY2 x hx
      · rcases List.mem_append.1 hx with hx | hx
        · exact r6.lt x hx
        · exact o46.lt (HM.out.2.2.2.1.xlt x (List.mem_append.2 (.inr (List.mem_append.2 (.inr hx)))))
  have Hfr := Lib.hid (show b2 ∉ rbl P (.slice lp P.length lc) (.slice g K'.length kc') from fun hm => by
    have h1 := Hsz.out
    rcases hrbk b2 hm with h | h
    · have := H.out.k.xlt b2 (H.out.x b2 h); omega
    · have h2 := Hs3.out
      have : b2 < w4.heap.size := lt_of_blk HM.out.1
      omega)
  have Hrk := Lib.hid (show ∀ x ∈ rbl P (.slice lp P.length lc) (.slice g K'.length kc'), x ∈ rbl P (.slice lp P.length lc) (.slice kp K.length kc) ∨ w.heap.size ≤ x from fun x hx => (hrbk x hx).imp id (fun h => by
    have h1 := Hsz.out
    have h2 : b < w4.heap.size := v0
    omega))
  have HKN := Lib.hid (kobj_Known hk6 s.tr.1 s.tr.2)
  obtain ⟨kv, hkv⟩ : ∃ kv, (knownK K' (s.tr.1, s.tr.2)).1 = kv := ⟨_, rfl⟩
  obtain ⟨ki, hki⟩ : ∃ ki, (knownK K' (s.tr.1, s.tr.2)).2 = ki := ⟨_, rfl⟩
  rw [hkv, hki] at HKN
  have HKV := Lib.hid (And.intro hkv hki)
  have n2 := o46.blk HM.out.1 (by simp)
  have n3 := o46.blk HM.out.2.1 (by simp)
  have u60 : w5.cell? ⟨w2.heap.size, 0, none⟩ = some (.int .u64 s.tr.1) := o5.cell u0 (by simp)
  have u61 : w5.cell? ⟨w2.heap.size, 1, none⟩ = some (.int .u64 s.tr.2) := o5.cell u1 (by simp)
  have v5 : w2.heap.size < w5.heap.size := o5.lt v3
  have HQ := Lib.hid (And.intro n2 (And.intro n3 (And.intro k6 (And.intro r6 (And.intro hk6 o46)))))
  clear hsl o5 hnew k6 o56 hs6 o46 r6 hY2 hrbk hk6 hkv hki n2 n3 HC
  go_wp2_with fail
  rw [← hw6]
  refine HKN.out.mono ?_
  rintro e w7 ⟨rfl, o7⟩
  have HC2 := Lib.hid (ref13_Kept (HQ.out.2.2.2.1.only o7 (by simp)) HK'n.out ms wt ch nw cm s.tr.1 s.tr.2)
  rw [HKV.out.1, HKV.out.2] at HC2
  have m3 := o7.blk HQ.out.2.1 (by simp)
  have m6 := o7.blk HQ.out.2.2.1 (by simp)
  have h0 : w7.cell? ⟨w5.heap.size, 0, none⟩ = some (.int .i64 ms) := blk_cells m6 0 _ rfl
  have h1 : w7.cell? ⟨w5.heap.size, 1, none⟩ = some (.int .i64 wt) := blk_cells m6 1 _ rfl
  have h2 : w7.cell? ⟨w5.heap.size, 2, none⟩ = some (.int .i64 ch) := blk_cells m6 2 _ rfl
  have h3 : w7.cell? ⟨w5.heap.size, 3, none⟩ = some (.int .i64 nw) := blk_cells m6 3 _ rfl
  have h4 : w7.cell? ⟨w5.heap.size, 4, none⟩ = some (.int .i64 cm) := blk_cells m6 4 _ rfl
  have h5 : w7.cell? ⟨w5.heap.size, 5, none⟩ = some (.slice lp P.length lc) := blk_cells m6 5 _ rfl
  have h6 : w7.cell? ⟨w5.heap.size, 6, none⟩ = some (.slice g K'.length kc') := blk_cells m6 6 _ rfl
  have i0 : w7.cell? ⟨w2.heap.size, 0, none⟩ = some (.int .u64 s.tr.1) := blk_cells m3 0 _ rfl
  have i1 : w7.cell? ⟨w2.heap.size, 1, none⟩ = some (.int .u64 s.tr.2) := blk_cells m3 1 _ rfl
  have ml6 : w5.heap.size < w7.heap.size := lt_of_blk m6
  have ml3 : w2.heap.size < w7.heap.size := lt_of_blk m3
  have O7 := Lib.hid o7
  clear o7 m3 m6 HKN hw6
  go_wp2_with fail
  refine HC2.out.mono ?_
  rintro e w8 ⟨rfl, o8⟩
  have o68 := O7.out.trans o8
  have m2 := o68.blk HQ.out.1 (by simp)
  have m6 := o68.blk HQ.out.2.2.1 (by simp)
  have j0 : w8.cell? ⟨w5.heap.size, 0, none⟩ = some (.int .i64 ms) := blk_cells m6 0 _ rfl
  have j1 : w8.cell? ⟨w5.heap.size, 1, none⟩ = some (.int .i64 wt) := blk_cells m6 1 _ rfl
  have j2 : w8.cell? ⟨w5.heap.size, 2, none⟩ = some (.int .i64 ch) := blk_cells m6 2 _ rfl
  have j3 : w8.cell? ⟨w5.heap.size, 3, none⟩ = some (.int .i64 nw) := blk_cells m6 3 _ rfl
  have j4 : w8.cell? ⟨w5.heap.size, 4, none⟩ = some (.int .i64 cm) := blk_cells m6 4 _ rfl
  have j5 : w8.cell? ⟨w5.heap.size, 5, none⟩ = some (.slice lp P.length lc) := blk_cells m6 5 _ rfl
  have j6 : w8.cell? ⟨w5.heap.size, 6, none⟩ = some (.slice g K'.length kc') := blk_cells m6 6 _ rfl
  have k0 : w8.cell? ⟨b2, 0, none⟩ = some (.int .i64 0) := blk_cells m2 0 _ rfl
  have k1 : w8.cell? ⟨b2, 1, none⟩ = some (.int .i64 0) := blk_cells m2 1 _ rfl
  have k2 : w8.cell? ⟨b2, 2, none⟩ = some (.int .i64 0) := blk_cells m2 2 _ rfl
  have k3 : w8.cell? ⟨b2, 3, none⟩ = some (.int .i64 0) := blk_cells m2 3 _ rfl
  have k4 : w8.cell? ⟨b2, 4, none⟩ = some (.int .i64 0) := blk_cells m2 4 _ rfl
  have k5 : w8.cell? ⟨b2, 5, none⟩ = some (.slice none 0 0) := blk_cells m2 5 _ rfl
  have k6 : w8.cell? ⟨b2, 6, none⟩ = some (.slice none 0 0) := blk_cells m2 6 _ rfl
  have zz : ∀ j, w8.frozen? ⟨b2, j, none⟩ = false := fun j => frozen_of_blk m2
  have mk6 : w5.heap.size < w8.heap.size := lt_of_blk m6
  have mk2 : b2 < w8.heap.size := lt_of_blk m2
  have O68 := Lib.hid o68
  clear o8 o68 m2 m6 HC2
  go_wp2_with fail
  refine bodyPost_ret (v := .tuple #[.agg #[.int .i64 ms, .int .i64 wt, .int .i64 ch, .int .i64 nw, .int .i64 cm, .slice lp P.length lc, .slice g K'.length kc'], .bool true]) (by simp [results, Try.results40, go_sem, *]; try rfl) rfl ?_
  refine ⟨lp, lc, g, kc', P, K', nw, cm, _, rfl, Both.done H.out (HQ.out.2.2.2.2.1.only O68.out (by simp) (by simp)) (HQ.out.2.2.2.1.only O68.out (by simp)) (fun x hx => ?_) (only_set7 w8 b2 (.int .i64 ms) (.int .i64 wt) (.int .i64 ch) (.int .i64 nw) (.int .i64 cm) (.slice lp P.length lc) (.slice g K'.length kc')) (by simp) (by have := Hsz.out; omega) Hfr.out, ⟨by omega, by omega⟩, ⟨Int.le_refl _, hp8⟩, Hrk.out⟩
  have h3 : x ∈ [b, b1, b2, w2.heap.size] ++ (rbl P (.slice lp P.length lc) (.slice kp K.length kc) ++ X) := List.mem_append.2 (.inr (List.mem_append.2 (.inr hx)))
  rw [(HQ.out.2.2.2.2.2.trans O68.out).block x (HM.out.2.2.2.1.xlt x h3) (by simp), HM.out.2.2.2.2 x h3]
  exact O3.out.block x (H.out.k.xlt x hx) (by simp)

theorem does_walk (h : Both w0 X w tp ms wt ch nw cm K P (.slice lp P.length lc) (.slice kp K.length kc)) (x y t m n : Int) (hx : 0 ≤ x ∧ x ≤ 255) (ht : 0 ≤ t ∧ t ≤ 255) (hm : 0 ≤ m ∧ m ≤ 255) (hc : cm < 1000000) (hch : ch ≤ 5000) :
    Calls Try.prog 40 #[.pointer (some ⟨tp, 0, none⟩), .agg #[.int .i64 ms, .int .i64 wt, .int .i64 ch, .int .i64 nw, .int .i64 cm, .slice lp P.length lc, .slice kp K.length kc], .int .i64 n, .agg #[.int .u8 x, .int .u8 y, .int .u8 t, .int .u8 m]] w fun e w' => DoesPost (rbl P (.slice lp P.length lc) (.slice kp K.length kc)) w0 X w tp ms wt ch nw cm e w' := by
  have hq : x.tmod 5 = 0 ∨ x.tmod 5 = 1 ∨ x.tmod 5 = 2 ∨ x.tmod 5 = 3 ∨ x.tmod 5 = 4 := by
    rw [Int.tmod_eq_emod_of_nonneg hx.1]
    omega
  rcases hq with hq | hq | hq | hq | hq
  · exact does_offer h x y t m n hx ht hm hc hch (.inl hq)
  · exact does_offer h x y t m n hx ht hm hc hch (.inr (.inl hq))
  · exact does_offer h x y t m n hx ht hm hc hch (.inr (.inr hq))
  · exact does_due h x y t m n hx ht hm hc hch hq
  · exact does_decide h x y t m n hx ht hm hc hch hq
end
end Go.Proofs.Ytcppnmogdmpdbaa
