/- One deed with both, walked. -/
import Derived.Test.YtcppnmogdmpdbaaLh
import Derived.Test.YtcppnmogdmpdbaaKn
import Derived.Deep.RegionHeld3
set_option linter.unusedVariables false
set_option linter.unusedSimpArgs false
namespace Go.Proofs.Ytcppnmogdmpdbaa
open Go.RowKit Go.Mk Go.Hp
attribute [-go_sem] Builtin.append_

/-- A buffer and the document's answer beside it: they say the same. -/
structure Both (w0 : World) (X : List Nat) (w : World) (tp : Nat) (ms wt ch nw cm : Int) (K : List Dec) (P : List (Ab × Value)) (lv kv : Value) : Prop where
  k : KObj w0 X w tp ms wt ch nw cm K (P.map (·.1))
  r : RefB w lv kv P K
  x : ∀ x ∈ rbl P lv kv, x ∈ X

theorem KObj.xlt {w0 w : World} {X : List Nat} {tp : Nat} {most wait cache now came : Int} {K : List Dec} {A : List Ab} (h : KObj w0 X w tp most wait cache now came K A) : ∀ x ∈ X, x < w.heap.size := by
  obtain ⟨b, Fh, ov, Q, _, _, _, _, _, h6, _⟩ := h
  exact h6
theorem KObj.small {w0 w : World} {X : List Nat} {tp : Nat} {most wait cache now came : Int} {K : List Dec} {A : List Ab} (h : KObj w0 X w tp most wait cache now came K A) : spansA A ≤ 5000 ∧ A.length ≤ spansA A ∧ most ≤ 5000 ∧ 1 ≤ wait ∧ wait ≤ 1099511627776 ∧ 1 ≤ cache ∧ 0 ≤ now ∧ now ≤ 1099511627776 ∧ 0 ≤ came := by
  obtain ⟨b, Fh, ov, Q, rfl, h4, rfl, _⟩ := h
  have hN := h4.num
  have h1 := spans_len hN.ne
  have h2 := hN.full
  have h3 := hN.most1
  rw [← spans_ab, List.length_map]
  exact ⟨by omega, h1, h3, hN.wait0, hN.wait1, hN.cache0, hN.now0, hN.now1, hN.came0⟩

section
variable {w0 w w5 w6 w7 : World} {X Y : List Nat} {tp b8 : Nat} {ms wt ch nw cm nw' cm' : Int} {K K' : List Dec} {P P' : List (Ab × Value)} {lv kv lv' kv' : Value}

theorem Both.ready (h : Both w0 X w tp ms wt ch nw cm K P lv kv) (o5 : Only [] w w5) (r5 : RefB w5 lv' kv' P' K') (hr : ∀ x ∈ rbl P' lv' kv', x ∈ rbl P lv kv ∨ w.heap.size ≤ x) (hY : ∀ x ∈ Y, w.heap.size ≤ x ∧ x < w5.heap.size) :
    KObj w0 (Y ++ (rbl P' lv' kv' ++ X)) w5 tp ms wt ch nw cm K (P.map (·.1)) := by
  refine h.k.swap o5 (by simp) (by simp) (fun x hx => ?_) (fun x hx => ?_)
  · rcases List.mem_append.1 hx with hx | hx
    · exact .inr (hY x hx).1
    · rcases List.mem_append.1 hx with hx | hx
      · exact (hr x hx).imp (h.x x) id
      · exact .inl hx
  · rcases List.mem_append.1 hx with hx | hx
    · exact (hY x hx).2
    · rcases List.mem_append.1 hx with hx | hx
      · exact r5.lt x hx
      · exact o5.lt (h.k.xlt x hx)

theorem Both.done (h : Both w0 X w tp ms wt ch nw cm K P lv kv) (k6 : KObj w0 (Y ++ (rbl P' lv' kv' ++ X)) w6 tp ms wt ch nw' cm' K' (P'.map (·.1))) (r6 : RefB w6 lv' kv' P' K') (hx6 : ∀ x ∈ X, w6.heap[x]? = w.heap[x]?) (o7 : Only [b8] w6 w7) (hb : b8 ∈ Y) (hb0 : w.heap.size ≤ b8) (hb8 : b8 ∉ rbl P' lv' kv') :
    Both w0 (Y ++ (rbl P' lv' kv' ++ X)) w7 tp ms wt ch nw' cm' K' P' lv' kv' ∧ (∀ x ∈ X, x ∈ Y ++ (rbl P' lv' kv' ++ X)) ∧ (∀ x ∈ X, w7.heap[x]? = w.heap[x]?) := by
  have hX : ∀ x ∈ X, x ∈ Y ++ (rbl P' lv' kv' ++ X) := fun x hx => List.mem_append.2 (.inr (List.mem_append.2 (.inr hx)))
  refine ⟨⟨k6.only o7 (fun x hx => ?_) (fun x hx => ?_), r6.only o7 (fun x hx hm => ?_), fun x hx => List.mem_append.2 (.inr (List.mem_append.2 (.inl hx)))⟩, hX, fun x hx => ?_⟩
  · rw [List.mem_singleton.1 hx]; exact List.mem_append.2 (.inl hb)
  · rw [List.mem_singleton.1 hx]; exact Nat.le_trans h.k.out.size hb0
  · rw [List.mem_singleton.1 hm] at hx; exact hb8 hx
  · rw [o7.block x (k6.xlt x (hX x hx)) (fun hm => by
      have := h.k.xlt x hx
      rw [List.mem_singleton] at hm
      omega)]
    exact hx6 x hx
end

section
variable {w0 w : World} {X : List Nat} {tp : Nat} {ms wt ch nw cm : Int} {lp kp : Option Addr} {lc kc : Nat} {P : List (Ab × Value)} {K : List Dec}

def DoesPost (R : List Nat) (w0 : World) (X : List Nat) (w : World) (tp : Nat) (ms wt ch nw cm : Int) (e : Ending) (w' : World) : Prop :=
  ∃ (lp' : Option Addr) (lc' : Nat) (kp' : Option Addr) (kc' : Nat) (P' : List (Ab × Value)) (K' : List Dec) (nw' cm' : Int) (X' : List Nat),
    e = .returned (.tuple #[.agg #[.int .i64 ms, .int .i64 wt, .int .i64 ch, .int .i64 nw', .int .i64 cm', .slice lp' P'.length lc', .slice kp' K'.length kc'], .bool true]) ∧
    (Both w0 X' w' tp ms wt ch nw' cm' K' P' (.slice lp' P'.length lc') (.slice kp' K'.length kc') ∧ (∀ x ∈ X, x ∈ X') ∧ (∀ x ∈ X, w'.heap[x]? = w.heap[x]?)) ∧ (cm ≤ cm' ∧ cm' ≤ cm + 1) ∧ (nw ≤ nw' ∧ nw' ≤ 1099511627776) ∧ ∀ x ∈ rbl P' (.slice lp' P'.length lc') (.slice kp' K'.length kc'), x ∈ R ∨ w.heap.size ≤ x

set_option maxRecDepth 100000 in
set_option maxHeartbeats 8000000 in
theorem does_offer (h : Both w0 X w tp ms wt ch nw cm K P (.slice lp P.length lc) (.slice kp K.length kc)) (x y t m n : Int) (hx : 0 ≤ x ∧ x ≤ 255) (ht : 0 ≤ t ∧ t ≤ 255) (hm : 0 ≤ m ∧ m ≤ 255) (hc : cm < 1000000) (hch : ch ≤ 5000) (hq : x.tmod 5 = 0 ∨ x.tmod 5 = 1 ∨ x.tmod 5 = 2) :
    Calls Try.prog 40 #[.pointer (some ⟨tp, 0, none⟩), .agg #[.int .i64 ms, .int .i64 wt, .int .i64 ch, .int .i64 nw, .int .i64 cm, .slice lp P.length lc, .slice kp K.length kc], .int .i64 n, .agg #[.int .u8 x, .int .u8 y, .int .u8 t, .int .u8 m]] w fun e w' => DoesPost (rbl P (.slice lp P.length lc) (.slice kp K.length kc)) w0 X w tp ms wt ch nw cm e w' := by
  obtain ⟨w1, hww⟩ : ∃ w1, w1 = (((w.alloc (.cells #[.int .i64 ms, .int .i64 wt, .int .i64 ch, .int .i64 nw, .int .i64 cm, .slice lp P.length lc, .slice kp K.length kc] 88)).alloc (.cells #[.int .u8 x, .int .u8 y, .int .u8 t, .int .u8 m] 74)).alloc (.cells #[.int .i64 0, .int .i64 0, .int .i64 0, .int .i64 0, .int .i64 0, .slice none 0 0, .slice none 0 0] 88)) := ⟨_, rfl⟩
  have o1 : Only [] w w1 := by rw [hww]; exact (((Only.refl _ _).alloc _).alloc _).alloc _
  obtain ⟨b, hb⟩ : ∃ b, b = w.heap.size := ⟨_, rfl⟩
  obtain ⟨b1, hb1⟩ : ∃ b1, b1 = b + 1 := ⟨_, rfl⟩
  obtain ⟨b2, hb2⟩ : ∃ b2, b2 = b + 1 + 1 := ⟨_, rfl⟩
  have k0 : w1.heap[b]? = some (.cells #[.int .i64 ms, .int .i64 wt, .int .i64 ch, .int .i64 nw, .int .i64 cm, .slice lp P.length lc, .slice kp K.length kc] 88 (0, 0)) := by
    rw [hww, hb]; exact (((Only.refl [] _).alloc _).alloc _).blk (heap_alloc_new w _) (by simp)
  have k1 : w1.heap[b1]? = some (.cells #[.int .u8 x, .int .u8 y, .int .u8 t, .int .u8 m] 74 (0, 0)) := by
    rw [hww, hb1, hb]
    refine ((Only.refl [] _).alloc _).blk ?_ (by simp)
    have h1 := heap_alloc_new (w.alloc (.cells #[.int .i64 ms, .int .i64 wt, .int .i64 ch, .int .i64 nw, .int .i64 cm, .slice lp P.length lc, .slice kp K.length kc] 88)) (.cells #[.int .u8 x, .int .u8 y, .int .u8 t, .int .u8 m] 74)
    rw [show (w.alloc (.cells #[.int .i64 ms, .int .i64 wt, .int .i64 ch, .int .i64 nw, .int .i64 cm, .slice lp P.length lc, .slice kp K.length kc] 88)).heap.size = w.heap.size + 1 by simp] at h1
    exact h1
  have k2 : w1.heap[b2]? = some (.cells #[.int .i64 0, .int .i64 0, .int .i64 0, .int .i64 0, .int .i64 0, .slice none 0 0, .slice none 0 0] 88 (0, 0)) := by
    rw [hww, hb2, hb]
    have h1 := heap_alloc_new ((w.alloc (.cells #[.int .i64 ms, .int .i64 wt, .int .i64 ch, .int .i64 nw, .int .i64 cm, .slice lp P.length lc, .slice kp K.length kc] 88)).alloc (.cells #[.int .u8 x, .int .u8 y, .int .u8 t, .int .u8 m] 74)) (.cells #[.int .i64 0, .int .i64 0, .int .i64 0, .int .i64 0, .int .i64 0, .slice none 0 0, .slice none 0 0] 88)
    rw [show ((w.alloc (.cells #[.int .i64 ms, .int .i64 wt, .int .i64 ch, .int .i64 nw, .int .i64 cm, .slice lp P.length lc, .slice kp K.length kc] 88)).alloc (.cells #[.int .u8 x, .int .u8 y, .int .u8 t, .int .u8 m] 74)).heap.size = w.heap.size + 1 + 1 by simp] at h1
    exact h1
  have hw3 : w1.heap.size = b + 3 := by rw [hww, hb]; simp
  obtain ⟨s, hs⟩ : ∃ s, s = ofSp t m := ⟨_, rfl⟩
  have co := of_walk x y t m w1 ht hm
  rw [← hs] at co
  unfold Sp.arr at co
  have CO := Lib.hid co
  have HB := Lib.hid (And.intro o1 (And.intro k0 (And.intro k1 k2)))
  have Hsz := Lib.hid (show w.heap.size = b ∧ b1 = b + 1 ∧ b2 = b + 2 ∧ w1.heap.size = b + 3 from ⟨hb.symm, hb1, hb2, hw3⟩)
  have H := Lib.hid h
  have Hsm := Lib.hid h.k.small
  have Hdu := Lib.hid h.k.dues
  have Hdec := Lib.hid h.k.dec
  obtain ⟨hx0, hx1⟩ := hx
  obtain ⟨hm0, hm1⟩ := hm
  clear h co ht hs hw3
  go_enter Try.func40, Try.ntmps40
  go_wp2_with fail
  rw [← hww, ← hb, ← hb2, ← hb1]
  have d0 : w1.cell? ⟨b1, 0, none⟩ = some (.int .u8 x) := blk_cells k1 0 _ rfl
  have d1 : w1.cell? ⟨b1, 1, none⟩ = some (.int .u8 y) := blk_cells k1 1 _ rfl
  have d2 : w1.cell? ⟨b1, 2, none⟩ = some (.int .u8 t) := blk_cells k1 2 _ rfl
  have d3 : w1.cell? ⟨b1, 3, none⟩ = some (.int .u8 m) := blk_cells k1 3 _ rfl
  have l1 : b1 < w1.heap.size := lt_of_blk k1
  clear hww hb hb1 hb2 k0 k1 k2
  refine CO.out.mono ?_
  rintro e w2 ⟨rfl, o2⟩
  have j0 := o2.blk HB.out.2.1 (by simp)
  have j1 := o2.blk HB.out.2.2.1 (by simp)
  have j2 := o2.blk HB.out.2.2.2 (by simp)
  have l0' : b < w2.heap.size := lt_of_blk j0
  have l1' : b1 < w2.heap.size := lt_of_blk j1
  have l2' : b2 < w2.heap.size := lt_of_blk j2
  have c0 : w2.cell? ⟨b, 0, none⟩ = some (.int .i64 ms) := blk_cells j0 0 _ rfl
  have c1 : w2.cell? ⟨b, 1, none⟩ = some (.int .i64 wt) := blk_cells j0 1 _ rfl
  have c2 : w2.cell? ⟨b, 2, none⟩ = some (.int .i64 ch) := blk_cells j0 2 _ rfl
  have c3 : w2.cell? ⟨b, 3, none⟩ = some (.int .i64 nw) := blk_cells j0 3 _ rfl
  have c4 : w2.cell? ⟨b, 4, none⟩ = some (.int .i64 cm) := blk_cells j0 4 _ rfl
  have c5 : w2.cell? ⟨b, 5, none⟩ = some (.slice lp P.length lc) := blk_cells j0 5 _ rfl
  have c6 : w2.cell? ⟨b, 6, none⟩ = some (.slice kp K.length kc) := blk_cells j0 6 _ rfl
  have e0 : w2.cell? ⟨b1, 0, none⟩ = some (.int .u8 x) := blk_cells j1 0 _ rfl
  have e1 : w2.cell? ⟨b1, 1, none⟩ = some (.int .u8 y) := blk_cells j1 1 _ rfl
  have e2 : w2.cell? ⟨b1, 2, none⟩ = some (.int .u8 t) := blk_cells j1 2 _ rfl
  have e3 : w2.cell? ⟨b1, 3, none⟩ = some (.int .u8 m) := blk_cells j1 3 _ rfl
  obtain ⟨w3, hw3⟩ : ∃ w3, w3 = w2.alloc (.cells #[.int .u64 s.tr.1, .int .u64 s.tr.2, .int .u64 s.id, .int .u64 s.par, .string s.nm, .int .i64 s.st, .int .i64 s.en, .bool s.bad, .slice none 0 0, .int .u64 s.rv] 65) := ⟨_, rfl⟩
  have o23 : Only [] w2 w3 := by rw [hw3]; exact (Only.refl _ _).alloc _
  have k3 : w3.heap[w2.heap.size]? = some (.cells #[.int .u64 s.tr.1, .int .u64 s.tr.2, .int .u64 s.id, .int .u64 s.par, .string s.nm, .int .i64 s.st, .int .i64 s.en, .bool s.bad, .slice none 0 0, .int .u64 s.rv] 65 (0, 0)) := by rw [hw3]; exact heap_alloc_new w2 _
  have O3 := Lib.hid (HB.out.1.trans (o2.trans o23))
  have HJ := Lib.hid (And.intro (o23.blk j0 (by simp)) (And.intro (o23.blk j1 (by simp)) (And.intro (o23.blk j2 (by simp)) k3)))
  have Hs3 := Lib.hid (show w3.heap.size = w2.heap.size + 1 ∧ w1.heap.size ≤ w2.heap.size by rw [hw3]; exact ⟨by simp, o2.size⟩)
  have r3 := H.out.r.only O3.out (by simp)
  have HR3 := Lib.hid r3
  clear o2 j0 j1 j2 o23 k3 d0 d1 d2 d3 l1 CO
  obtain ⟨hp1, hp2, hp3, hp4, hp5, hp6, hp7, hp8, hp9⟩ := Hsm.out
  have HCH := Lib.hid (show K.length ≤ 5000 by have := Hdec.out.le; have := hch; omega)
  have Hcm := Lib.hid hc
  obtain ⟨so, hso⟩ : ∃ so, offS K (P.map (·.1)) ms nw n s.tr = so := ⟨_, rfl⟩
  obtain ⟨eo, heo⟩ : ∃ eo, offE nw n = eo := ⟨_, rfl⟩
  obtain ⟨no, hno⟩ : ∃ no, offN nw n = no := ⟨_, rfl⟩
  obtain ⟨co, hco⟩ : ∃ co, offC K (P.map (·.1)) ms nw n cm s.tr = co := ⟨_, rfl⟩
  have hc := ref13_OfferX r3 (HCH.out) (by rw [List.length_map] at hp2; omega) hp1 ms wt ch nw cm n s hp7 hp4 hp5 hp9 hc
  rw [hso, heo, hno, hco] at hc
  unfold Sp.arr at hc
  have HC := Lib.hid hc
  have Heq := Lib.hid (And.intro hso (And.intro heo (And.intro hno hco)))
  have heo2 := offE_cases nw n
  rw [heo] at heo2
  have Hno := Lib.hid (show nw ≤ no ∧ no ≤ 1099511627776 by rw [← hno]; exact offN_le nw n hp8)
  have Hco := Lib.hid (show cm ≤ co ∧ co ≤ cm + 1 by rw [← hco]; exact offC_le _ _ _ _ _ _ _)
  have heo3 : 0 ≤ eo ∧ eo ≤ 60 := by omega
  obtain ⟨heo4, heo5⟩ := heo3
  clear r3 hc hso heo hno hco heo2 hp1 hp2 hp3 hp4 hp5 hp6 hp7 hp8 hp9
  rcases hq with hq | hq | hq
  all_goals
    go_wp2_with fail
    rw [← hw3]
    refine HC.out.mono ?_
    rintro e w4 ⟨lp', lc', P', rfl, hP', r4, o4, hrb⟩
    obtain ⟨w5, hw5⟩ : ∃ w5, w5 = w4.alloc (.cells #[.int .i64 ms, .int .i64 wt, .int .i64 ch, .int .i64 no, .int .i64 co, .slice lp' P'.length lc', .slice kp K.length kc] 88) := ⟨_, rfl⟩
    have o45 : Only [] w4 w5 := by rw [hw5]; exact (Only.refl _ _).alloc _
    have k5 : w5.heap[w4.heap.size]? = some (.cells #[.int .i64 ms, .int .i64 wt, .int .i64 ch, .int .i64 no, .int .i64 co, .slice lp' P'.length lc', .slice kp K.length kc] 88 (0, 0)) := by rw [hw5]; exact heap_alloc_new w4 _
    have hs5 : w5.heap.size = w4.heap.size + 1 := by rw [hw5]; simp
    have o35 := o4.trans o45
    have r5 := r4.only o45 (by simp)
    have hrb' : ∀ x ∈ rbl P' (.slice lp' P'.length lc') (.slice kp K.length kc), x ∈ rbl P (.slice lp P.length lc) (.slice kp K.length kc) ∨ w.heap.size ≤ x := fun x hx => (hrb x hx).imp id (fun h => Nat.le_trans O3.out.size h)
    have hY : ∀ x ∈ [b, b1, b2, w2.heap.size, w4.heap.size], w.heap.size ≤ x ∧ x < w5.heap.size := by
      intro x hx
      have h1 := Hsz.out
      have h2 := Hs3.out
      have h3 := o4.size
      simp only [List.mem_cons, List.not_mem_nil, or_false] at hx
      rcases hx with rfl | rfl | rfl | rfl | rfl <;> omega
    have KR := Both.ready H.out (O3.out.trans o35) r5 hrb' hY
    have hk := kobj_Offer KR n s Hcm.out
    rw [Heq.out.1, Heq.out.2.1, Heq.out.2.2.1, Heq.out.2.2.2, ← hP'] at hk
    unfold Sp.arr at hk
    have HK := Lib.hid hk
    have HV := Lib.hid (And.intro r5 (And.intro hrb' (And.intro (o35.blk HJ.out.2.2.1 (by simp)) (And.intro k5 (O3.out.trans o35)))))
    have k30 := o4.cell (blk_cells HJ.out.2.2.2 0 _ rfl) (by simp)
    have Hfr := Lib.hid (show b2 ∉ rbl P' (.slice lp' P'.length lc') (.slice kp K.length kc) from fun hm => by
      have h1 := Hsz.out
      have h2 := Hs3.out
      rcases hrb b2 hm with h | h
      · have := H.out.k.xlt b2 (H.out.x b2 h); omega
      · omega)
    have y0 : w4.cell? ⟨w2.heap.size, 0, none⟩ = some (.int .u64 s.tr.1) := o4.cell (blk_cells HJ.out.2.2.2 0 _ rfl) (by simp)
    have y1 : w4.cell? ⟨w2.heap.size, 1, none⟩ = some (.int .u64 s.tr.2) := o4.cell (blk_cells HJ.out.2.2.2 1 _ rfl) (by simp)
    have y2 : w4.cell? ⟨w2.heap.size, 2, none⟩ = some (.int .u64 s.id) := o4.cell (blk_cells HJ.out.2.2.2 2 _ rfl) (by simp)
    have y3 : w4.cell? ⟨w2.heap.size, 3, none⟩ = some (.int .u64 s.par) := o4.cell (blk_cells HJ.out.2.2.2 3 _ rfl) (by simp)
    have y4 : w4.cell? ⟨w2.heap.size, 4, none⟩ = some (.string s.nm) := o4.cell (blk_cells HJ.out.2.2.2 4 _ rfl) (by simp)
    have y5 : w4.cell? ⟨w2.heap.size, 5, none⟩ = some (.int .i64 s.st) := o4.cell (blk_cells HJ.out.2.2.2 5 _ rfl) (by simp)
    have y6 : w4.cell? ⟨w2.heap.size, 6, none⟩ = some (.int .i64 s.en) := o4.cell (blk_cells HJ.out.2.2.2 6 _ rfl) (by simp)
    have y7 : w4.cell? ⟨w2.heap.size, 7, none⟩ = some (.bool s.bad) := o4.cell (blk_cells HJ.out.2.2.2 7 _ rfl) (by simp)
    have y8 : w4.cell? ⟨w2.heap.size, 8, none⟩ = some (.slice none 0 0) := o4.cell (blk_cells HJ.out.2.2.2 8 _ rfl) (by simp)
    have y9 : w4.cell? ⟨w2.heap.size, 9, none⟩ = some (.int .u64 s.rv) := o4.cell (blk_cells HJ.out.2.2.2 9 _ rfl) (by simp)
    have yl : w2.heap.size < w4.heap.size := by have := Hs3.out; have := o4.size; omega
    clear r4 o4 hrb o45 k5 hs5 o35 r5 hrb' hY KR hk k30 hP' HC
    go_wp2_with fail
    rw [← hw5]
    refine HK.out.mono ?_
    rintro e w6 ⟨rfl, hk6, hx6⟩
    have z2 := (hx6 b2 (by simp)).trans HV.out.2.2.1
    have z5 := (hx6 w4.heap.size (by simp)).trans HV.out.2.2.2.1
    have zl2 : b2 < w6.heap.size := lt_of_blk z2
    have zl5 : w4.heap.size < w6.heap.size := lt_of_blk z5
    have f0 : w6.cell? ⟨b2, 0, none⟩ = some (.int .i64 0) := blk_cells z2 0 _ rfl
    have f1 : w6.cell? ⟨b2, 1, none⟩ = some (.int .i64 0) := blk_cells z2 1 _ rfl
    have f2 : w6.cell? ⟨b2, 2, none⟩ = some (.int .i64 0) := blk_cells z2 2 _ rfl
    have f3 : w6.cell? ⟨b2, 3, none⟩ = some (.int .i64 0) := blk_cells z2 3 _ rfl
    have f4 : w6.cell? ⟨b2, 4, none⟩ = some (.int .i64 0) := blk_cells z2 4 _ rfl
    have f5 : w6.cell? ⟨b2, 5, none⟩ = some (.slice none 0 0) := blk_cells z2 5 _ rfl
    have f6 : w6.cell? ⟨b2, 6, none⟩ = some (.slice none 0 0) := blk_cells z2 6 _ rfl
    have g0 : w6.cell? ⟨w4.heap.size, 0, none⟩ = some (.int .i64 ms) := blk_cells z5 0 _ rfl
    have g1 : w6.cell? ⟨w4.heap.size, 1, none⟩ = some (.int .i64 wt) := blk_cells z5 1 _ rfl
    have g2 : w6.cell? ⟨w4.heap.size, 2, none⟩ = some (.int .i64 ch) := blk_cells z5 2 _ rfl
    have g3 : w6.cell? ⟨w4.heap.size, 3, none⟩ = some (.int .i64 no) := blk_cells z5 3 _ rfl
    have g4 : w6.cell? ⟨w4.heap.size, 4, none⟩ = some (.int .i64 co) := blk_cells z5 4 _ rfl
    have g5 : w6.cell? ⟨w4.heap.size, 5, none⟩ = some (.slice lp' P'.length lc') := blk_cells z5 5 _ rfl
    have g6 : w6.cell? ⟨w4.heap.size, 6, none⟩ = some (.slice kp K.length kc) := blk_cells z5 6 _ rfl
    have zz : ∀ j, w6.frozen? ⟨b2, j, none⟩ = false := fun j => frozen_of_blk z2
    have weo : IntKind.i64.wrap eo = eo := IntWalk.i64_in _ (by omega)
    have HE := Lib.hid (And.intro hk6 hx6)
    clear hk6 hx6 z2 z5 hw5 HK
    go_wp2_with fail
    refine bodyPost_ret (v := .tuple #[.agg #[.int .i64 ms, .int .i64 wt, .int .i64 ch, .int .i64 no, .int .i64 co, .slice lp' P'.length lc', .slice kp K.length kc], .bool true]) (by simp [results, Try.results40, go_sem, *]; try rfl) rfl ?_
    refine ⟨lp', lc', kp, kc, P', K, no, co, _, rfl, Both.done H.out HE.out.1 (HV.out.1.keep (fun x hx => HE.out.2 x (List.mem_append.2 (.inr (List.mem_append.2 (.inl hx)))))) (fun x hx => ?_) (only_set7 w6 b2 (.int .i64 ms) (.int .i64 wt) (.int .i64 ch) (.int .i64 no) (.int .i64 co) (.slice lp' P'.length lc') (.slice kp K.length kc)) (by simp) (by have := Hsz.out; omega) Hfr.out, Hco.out, Hno.out, HV.out.2.1⟩
    rw [HE.out.2 x (List.mem_append.2 (.inr (List.mem_append.2 (.inr hx))))]
    exact HV.out.2.2.2.2.block x (H.out.k.xlt x hx) (by simp)
set_option maxRecDepth 100000 in
set_option maxHeartbeats 8000000 in
theorem does_due (h : Both w0 X w tp ms wt ch nw cm K P (.slice lp P.length lc) (.slice kp K.length kc)) (x y t m n : Int) (hx : 0 ≤ x ∧ x ≤ 255) (ht : 0 ≤ t ∧ t ≤ 255) (hm : 0 ≤ m ∧ m ≤ 255) (hc : cm < 1000000) (hch : ch ≤ 5000) (hq : x.tmod 5 = 3) :
    Calls Try.prog 40 #[.pointer (some ⟨tp, 0, none⟩), .agg #[.int .i64 ms, .int .i64 wt, .int .i64 ch, .int .i64 nw, .int .i64 cm, .slice lp P.length lc, .slice kp K.length kc], .int .i64 n, .agg #[.int .u8 x, .int .u8 y, .int .u8 t, .int .u8 m]] w fun e w' => DoesPost (rbl P (.slice lp P.length lc) (.slice kp K.length kc)) w0 X w tp ms wt ch nw cm e w' := by
  obtain ⟨w1, hww⟩ : ∃ w1, w1 = (((w.alloc (.cells #[.int .i64 ms, .int .i64 wt, .int .i64 ch, .int .i64 nw, .int .i64 cm, .slice lp P.length lc, .slice kp K.length kc] 88)).alloc (.cells #[.int .u8 x, .int .u8 y, .int .u8 t, .int .u8 m] 74)).alloc (.cells #[.int .i64 0, .int .i64 0, .int .i64 0, .int .i64 0, .int .i64 0, .slice none 0 0, .slice none 0 0] 88)) := ⟨_, rfl⟩
  have o1 : Only [] w w1 := by rw [hww]; exact (((Only.refl _ _).alloc _).alloc _).alloc _
  obtain ⟨b, hb⟩ : ∃ b, b = w.heap.size := ⟨_, rfl⟩
  obtain ⟨b1, hb1⟩ : ∃ b1, b1 = b + 1 := ⟨_, rfl⟩
  obtain ⟨b2, hb2⟩ : ∃ b2, b2 = b + 1 + 1 := ⟨_, rfl⟩
  have k0 : w1.heap[b]? = some (.cells #[.int .i64 ms, .int .i64 wt, .int .i64 ch, .int .i64 nw, .int .i64 cm, .slice lp P.length lc, .slice kp K.length kc] 88 (0, 0)) := by
    rw [hww, hb]; exact (((Only.refl [] _).alloc _).alloc _).blk (heap_alloc_new w _) (by simp)
  have k1 : w1.heap[b1]? = some (.cells #[.int .u8 x, .int .u8 y, .int .u8 t, .int .u8 m] 74 (0, 0)) := by
    rw [hww, hb1, hb]
    refine ((Only.refl [] _).alloc _).blk ?_ (by simp)
    have h1 := heap_alloc_new (w.alloc (.cells #[.int .i64 ms, .int .i64 wt, .int .i64 ch, .int .i64 nw, .int .i64 cm, .slice lp P.length lc, .slice kp K.length kc] 88)) (.cells #[.int .u8 x, .int .u8 y, .int .u8 t, .int .u8 m] 74)
    rw [show (w.alloc (.cells #[.int .i64 ms, .int .i64 wt, .int .i64 ch, .int .i64 nw, .int .i64 cm, .slice lp P.length lc, .slice kp K.length kc] 88)).heap.size = w.heap.size + 1 by simp] at h1
    exact h1
  have k2 : w1.heap[b2]? = some (.cells #[.int .i64 0, .int .i64 0, .int .i64 0, .int .i64 0, .int .i64 0, .slice none 0 0, .slice none 0 0] 88 (0, 0)) := by
    rw [hww, hb2, hb]
    have h1 := heap_alloc_new ((w.alloc (.cells #[.int .i64 ms, .int .i64 wt, .int .i64 ch, .int .i64 nw, .int .i64 cm, .slice lp P.length lc, .slice kp K.length kc] 88)).alloc (.cells #[.int .u8 x, .int .u8 y, .int .u8 t, .int .u8 m] 74)) (.cells #[.int .i64 0, .int .i64 0, .int .i64 0, .int .i64 0, .int .i64 0, .slice none 0 0, .slice none 0 0] 88)
    rw [show ((w.alloc (.cells #[.int .i64 ms, .int .i64 wt, .int .i64 ch, .int .i64 nw, .int .i64 cm, .slice lp P.length lc, .slice kp K.length kc] 88)).alloc (.cells #[.int .u8 x, .int .u8 y, .int .u8 t, .int .u8 m] 74)).heap.size = w.heap.size + 1 + 1 by simp] at h1
    exact h1
  have hw3 : w1.heap.size = b + 3 := by rw [hww, hb]; simp
  obtain ⟨s, hs⟩ : ∃ s, s = ofSp t m := ⟨_, rfl⟩
  have co := of_walk x y t m w1 ht hm
  rw [← hs] at co
  unfold Sp.arr at co
  have CO := Lib.hid co
  have HB := Lib.hid (And.intro o1 (And.intro k0 (And.intro k1 k2)))
  have Hsz := Lib.hid (show w.heap.size = b ∧ b1 = b + 1 ∧ b2 = b + 2 ∧ w1.heap.size = b + 3 from ⟨hb.symm, hb1, hb2, hw3⟩)
  have H := Lib.hid h
  have Hsm := Lib.hid h.k.small
  have Hdu := Lib.hid h.k.dues
  have Hdec := Lib.hid h.k.dec
  obtain ⟨hx0, hx1⟩ := hx
  obtain ⟨hm0, hm1⟩ := hm
  clear h co ht hs hw3
  go_enter Try.func40, Try.ntmps40
  go_wp2_with fail
  rw [← hww, ← hb, ← hb2, ← hb1]
  have d0 : w1.cell? ⟨b1, 0, none⟩ = some (.int .u8 x) := blk_cells k1 0 _ rfl
  have d1 : w1.cell? ⟨b1, 1, none⟩ = some (.int .u8 y) := blk_cells k1 1 _ rfl
  have d2 : w1.cell? ⟨b1, 2, none⟩ = some (.int .u8 t) := blk_cells k1 2 _ rfl
  have d3 : w1.cell? ⟨b1, 3, none⟩ = some (.int .u8 m) := blk_cells k1 3 _ rfl
  have l1 : b1 < w1.heap.size := lt_of_blk k1
  clear hww hb hb1 hb2 k0 k1 k2
  refine CO.out.mono ?_
  rintro e w2 ⟨rfl, o2⟩
  have j0 := o2.blk HB.out.2.1 (by simp)
  have j1 := o2.blk HB.out.2.2.1 (by simp)
  have j2 := o2.blk HB.out.2.2.2 (by simp)
  have l0' : b < w2.heap.size := lt_of_blk j0
  have l1' : b1 < w2.heap.size := lt_of_blk j1
  have l2' : b2 < w2.heap.size := lt_of_blk j2
  have c0 : w2.cell? ⟨b, 0, none⟩ = some (.int .i64 ms) := blk_cells j0 0 _ rfl
  have c1 : w2.cell? ⟨b, 1, none⟩ = some (.int .i64 wt) := blk_cells j0 1 _ rfl
  have c2 : w2.cell? ⟨b, 2, none⟩ = some (.int .i64 ch) := blk_cells j0 2 _ rfl
  have c3 : w2.cell? ⟨b, 3, none⟩ = some (.int .i64 nw) := blk_cells j0 3 _ rfl
  have c4 : w2.cell? ⟨b, 4, none⟩ = some (.int .i64 cm) := blk_cells j0 4 _ rfl
  have c5 : w2.cell? ⟨b, 5, none⟩ = some (.slice lp P.length lc) := blk_cells j0 5 _ rfl
  have c6 : w2.cell? ⟨b, 6, none⟩ = some (.slice kp K.length kc) := blk_cells j0 6 _ rfl
  have e0 : w2.cell? ⟨b1, 0, none⟩ = some (.int .u8 x) := blk_cells j1 0 _ rfl
  have e1 : w2.cell? ⟨b1, 1, none⟩ = some (.int .u8 y) := blk_cells j1 1 _ rfl
  have e2 : w2.cell? ⟨b1, 2, none⟩ = some (.int .u8 t) := blk_cells j1 2 _ rfl
  have e3 : w2.cell? ⟨b1, 3, none⟩ = some (.int .u8 m) := blk_cells j1 3 _ rfl
  obtain ⟨w3, hw3⟩ : ∃ w3, w3 = w2.alloc (.cells #[.int .u64 s.tr.1, .int .u64 s.tr.2, .int .u64 s.id, .int .u64 s.par, .string s.nm, .int .i64 s.st, .int .i64 s.en, .bool s.bad, .slice none 0 0, .int .u64 s.rv] 65) := ⟨_, rfl⟩
  have o23 : Only [] w2 w3 := by rw [hw3]; exact (Only.refl _ _).alloc _
  have k3 : w3.heap[w2.heap.size]? = some (.cells #[.int .u64 s.tr.1, .int .u64 s.tr.2, .int .u64 s.id, .int .u64 s.par, .string s.nm, .int .i64 s.st, .int .i64 s.en, .bool s.bad, .slice none 0 0, .int .u64 s.rv] 65 (0, 0)) := by rw [hw3]; exact heap_alloc_new w2 _
  have O3 := Lib.hid (HB.out.1.trans (o2.trans o23))
  have HJ := Lib.hid (And.intro (o23.blk j0 (by simp)) (And.intro (o23.blk j1 (by simp)) (And.intro (o23.blk j2 (by simp)) k3)))
  have Hs3 := Lib.hid (show w3.heap.size = w2.heap.size + 1 ∧ w1.heap.size ≤ w2.heap.size by rw [hw3]; exact ⟨by simp, o2.size⟩)
  have r3 := H.out.r.only O3.out (by simp)
  have HR3 := Lib.hid r3
  clear o2 j0 j1 j2 o23 k3 d0 d1 d2 d3 l1 CO
  obtain ⟨hp1, hp2, hp3, hp4, hp5, hp6, hp7, hp8, hp9⟩ := Hsm.out
  have HP5 := Lib.hid (show P.length ≤ 5000 by rw [List.length_map] at hp2; omega)
  obtain ⟨eo, heo⟩ : ∃ eo, offE nw n = eo := ⟨_, rfl⟩
  obtain ⟨no, hno⟩ : ∃ no, offN nw n = no := ⟨_, rfl⟩
  obtain ⟨dl, hdl⟩ : ∃ dl, (dueX (P.map (·.1)) nw n).length = dl := ⟨_, rfl⟩
  have hsub : ∀ a ∈ dueX (P.map (·.1)) nw n, a ∈ P.map (·.1) := by
    unfold dueX
    split
    · simp
    · exact fun a ha => (List.takeWhile_sublist _).subset ha
  have hdl5 : dl ≤ 5000 := by
    rw [← hdl]
    unfold dueX
    split
    · simp
    · have h1 := (List.takeWhile_sublist (fun a : Ab => decide (a.due ≤ n)) (l := P.map (·.1))).length_le
      show (dueA n _).length ≤ 5000
      unfold dueA
      omega
  have hc := ref13_DueX r3 (by have := Hdu.out; rw [List.map_map] at this; exact this) HP5.out ms wt ch nw cm n
  rw [heo, hno, hdl] at hc
  have HC := Lib.hid hc
  have Heq := Lib.hid (And.intro heo (And.intro hno hdl))
  have heo2 := offE_cases nw n
  rw [heo] at heo2
  have Hno := Lib.hid (show nw ≤ no ∧ no ≤ 1099511627776 by rw [← hno]; exact offN_le nw n hp8)
  have heo3 : 0 ≤ eo ∧ eo ≤ 60 := by omega
  obtain ⟨heo4, heo5⟩ := heo3
  have Hsub := Lib.hid (And.intro hsub hdl5)
  have Hsp5 := Lib.hid hp1
  clear r3 hc heo hno hdl heo2 hp1 hp2 hp3 hp4 hp5 hp6 hp7 hp8 hp9 hsub hdl5
  go_wp2_with fail
  rw [← hw3]
  refine HC.out.mono ?_
  rintro e w4 ⟨lp', lc', P', D, gp, gc, rfl, hD1, hP', r4, hD2, hD3, o4, hrb, hgb, hDb⟩
  obtain ⟨w5, hw5⟩ : ∃ w5, w5 = w4.alloc (.cells #[.int .i64 ms, .int .i64 wt, .int .i64 ch, .int .i64 no, .int .i64 cm, .slice lp' P'.length lc', .slice kp K.length kc] 88) := ⟨_, rfl⟩
  have o45 : Only [] w4 w5 := by rw [hw5]; exact (Only.refl _ _).alloc _
  have k5 : w5.heap[w4.heap.size]? = some (.cells #[.int .i64 ms, .int .i64 wt, .int .i64 ch, .int .i64 no, .int .i64 cm, .slice lp' P'.length lc', .slice kp K.length kc] 88 (0, 0)) := by rw [hw5]; exact heap_alloc_new w4 _
  have hs5 : w5.heap.size = w4.heap.size + 1 := by rw [hw5]; simp
  have o35 := o4.trans o45
  have r5 := r4.only o45 (by simp)
  have hrb' : ∀ x ∈ rbl P' (.slice lp' P'.length lc') (.slice kp K.length kc), x ∈ rbl P (.slice lp P.length lc) (.slice kp K.length kc) ∨ w.heap.size ≤ x := fun x hx => (hrb x hx).imp id (fun h => Nat.le_trans O3.out.size h)
  have hY : ∀ x ∈ [b, b1, b2, w2.heap.size, w4.heap.size] ++ blockOf (.slice gp dl gc), w.heap.size ≤ x ∧ x < w5.heap.size := by
    intro x hx
    have h1 := Hsz.out
    have h2 := Hs3.out
    have h3 := o4.size
    rcases List.mem_append.1 hx with hx | hx
    · simp only [List.mem_cons, List.not_mem_nil, or_false] at hx
      rcases hx with rfl | rfl | rfl | rfl | rfl <;> omega
    · have h4 := hgb x hx
      have h5 := hD2.lt x hx
      omega
  have KR := Both.ready H.out (O3.out.trans o35) r5 hrb' hY
  have hk := kobj_DueX KR n
  rw [Heq.out.1, Heq.out.2.1, Heq.out.2.2, ← hP'] at hk
  have HK := Lib.hid hk
  have HV := Lib.hid (And.intro r5 (And.intro hrb' (And.intro (o35.blk HJ.out.2.2.1 (by simp)) (And.intro k5 (O3.out.trans o35)))))
  have HD := Lib.hid (And.intro hD1 (And.intro (hD2.only o45 (by simp)) (And.intro (fun p hp => (hD3 p hp).only o45 (by simp)) hDb)))
  have Hfr := Lib.hid (show b2 ∉ rbl P' (.slice lp' P'.length lc') (.slice kp K.length kc) from fun hm => by
    have h1 := Hsz.out
    have h2 := Hs3.out
    rcases hrb b2 hm with h | h
    · have := H.out.k.xlt b2 (H.out.x b2 h); omega
    · omega)
  clear r4 o4 hrb o45 k5 hs5 o35 r5 hrb' hY KR hk hP' HC hD1 hD2 hD3 hgb hDb
  go_wp2_with fail
  rw [← hw5]
  refine HK.out.mono ?_
  rintro e w6 ⟨pp, pc, Y, rfl, hg1, hg2, hg3, hk6, hx6⟩
  have z2 := (hx6 b2 (by simp)).trans HV.out.2.2.1
  have z5 := (hx6 w4.heap.size (by simp)).trans HV.out.2.2.2.1
  have hDX : ∀ x ∈ blockOf (.slice gp dl gc), w6.heap[x]? = w5.heap[x]? := fun x hx => hx6 x (List.mem_append.2 (.inl (List.mem_append.2 (.inr hx))))
  have hDY : ∀ p ∈ D, ∀ x ∈ blockOf p.2, w6.heap[x]? = w5.heap[x]? := fun p hp x hx => hx6 x (List.mem_append.2 (.inr (List.mem_append.2 (.inr (H.out.x x (HD.out.2.2.2 p hp x hx))))))
  have HG := Lib.hid (fun W (ho : Only [] w6 W) => groups_walk (w := W) (X := Y) (Y := D) (p := pp) (q := gp) (n := dl) (c1 := pc) (c2 := gc) (hg1.only ho (by simp)) ((keep_row HD.out.2.1 hDX).only ho (by simp)) (by rw [← Heq.out.2.2, ← hg3, List.length_map]) (by rw [hg3, HD.out.1]) (fun p hp => (hg2 p hp).only ho (by simp)) (fun p hp => (keep_row (HD.out.2.2.1 p hp) (hDY p hp)).only ho (by simp)) Hsub.out.2 (fun p hp => by
    have h1 : p.1 ∈ P.map (·.1) := Hsub.out.1 _ (by rw [← hg3]; exact List.mem_map_of_mem hp)
    obtain ⟨u, hu, hu2⟩ := List.mem_map.1 h1
    obtain ⟨i, hi⟩ := List.mem_iff_getElem?.1 hu
    have := spans_one hi
    rw [← hu2]
    have := Hsp5.out
    omega))
  have HH := Lib.hid (show ∀ W, Only [] w6 W → W.cell? ⟨w4.heap.size, 0, none⟩ = some (.int .i64 ms) ∧ W.cell? ⟨w4.heap.size, 1, none⟩ = some (.int .i64 wt) ∧ W.cell? ⟨w4.heap.size, 2, none⟩ = some (.int .i64 ch) ∧ W.cell? ⟨w4.heap.size, 3, none⟩ = some (.int .i64 no) ∧ W.cell? ⟨w4.heap.size, 4, none⟩ = some (.int .i64 cm) ∧ W.cell? ⟨w4.heap.size, 5, none⟩ = some (.slice lp' P'.length lc') ∧ W.cell? ⟨w4.heap.size, 6, none⟩ = some (.slice kp K.length kc) ∧ W.cell? ⟨b2, 0, none⟩ = some (.int .i64 0) ∧ W.cell? ⟨b2, 1, none⟩ = some (.int .i64 0) ∧ W.cell? ⟨b2, 2, none⟩ = some (.int .i64 0) ∧ W.cell? ⟨b2, 3, none⟩ = some (.int .i64 0) ∧ W.cell? ⟨b2, 4, none⟩ = some (.int .i64 0) ∧ W.cell? ⟨b2, 5, none⟩ = some (.slice none 0 0) ∧ W.cell? ⟨b2, 6, none⟩ = some (.slice none 0 0) ∧ (∀ j, W.frozen? ⟨b2, j, none⟩ = false) ∧ b2 < W.heap.size ∧ w4.heap.size < W.heap.size from fun W ho => by
    have zz2 := ho.blk z2 (by simp)
    have zz5 := ho.blk z5 (by simp)
    exact ⟨blk_cells zz5 0 _ rfl, blk_cells zz5 1 _ rfl, blk_cells zz5 2 _ rfl, blk_cells zz5 3 _ rfl, blk_cells zz5 4 _ rfl, blk_cells zz5 5 _ rfl, blk_cells zz5 6 _ rfl, blk_cells zz2 0 _ rfl, blk_cells zz2 1 _ rfl, blk_cells zz2 2 _ rfl, blk_cells zz2 3 _ rfl, blk_cells zz2 4 _ rfl, blk_cells zz2 5 _ rfl, blk_cells zz2 6 _ rfl, fun j => frozen_of_blk zz2, lt_of_blk zz2, lt_of_blk zz5⟩)
  obtain ⟨g0, g1, g2, g3, g4, g5, g6, f0, f1, f2, f3, f4, f5, f6, zz, zl2, zl5⟩ := HH.out w6 (Only.refl _ _)
  have weo : IntKind.i64.wrap eo = eo := IntWalk.i64_in _ (by omega)
  have HE := Lib.hid (And.intro hk6 hx6)
  clear hk6 hx6 z2 z5 hw5 HK hDX hDY hg1 hg2 hg3
  go_wp2_with fail
  go_region_with (go_at_call 57; go_must (refine (HG.out _ (by first | exact Only.refl _ _ | exact (Only.refl _ _).drew | exact (Only.refl _ _).drewN _)).mono ?_; rintro e w7 ⟨rfl, o7⟩; have O7 := Lib.hid (Only.trans (S := []) (a := w6) (by first | exact Only.refl _ _ | exact (Only.refl _ _).drew | exact (Only.refl _ _).drewN _) o7); obtain ⟨gg0, gg1, gg2, gg3, gg4, gg5, gg6, ff0, ff1, ff2, ff3, ff4, ff5, ff6, zz7, zm2, zm5⟩ := HH.out w7 O7.out; clear o7))
  all_goals
    go_wp2_with fail
    refine bodyPost_ret (v := .tuple #[.agg #[.int .i64 ms, .int .i64 wt, .int .i64 ch, .int .i64 no, .int .i64 cm, .slice lp' P'.length lc', .slice kp K.length kc], .bool true]) (by simp [results, Try.results40, go_sem, *]; try rfl) rfl ?_
    refine ⟨lp', lc', kp, kc, P', K, no, cm, _, rfl, Both.done H.out (HE.out.1.only O7.out (by simp) (by simp)) ((HV.out.1.keep (fun x hx => HE.out.2 x (List.mem_append.2 (.inr (List.mem_append.2 (.inl hx)))))).only O7.out (by simp)) (fun x hx => ?_) (only_set7 w7 b2 (.int .i64 ms) (.int .i64 wt) (.int .i64 ch) (.int .i64 no) (.int .i64 cm) (.slice lp' P'.length lc') (.slice kp K.length kc)) (by simp) (by have := Hsz.out; omega) Hfr.out, ⟨by omega, by omega⟩, Hno.out, HV.out.2.1⟩
    have h3 : x ∈ ([b, b1, b2, w2.heap.size, w4.heap.size] ++ blockOf (.slice gp dl gc)) ++ (rbl P' (.slice lp' P'.length lc') (.slice kp K.length kc) ++ X) := List.mem_append.2 (.inr (List.mem_append.2 (.inr hx)))
    rw [O7.out.block x (HE.out.1.xlt x h3) (by simp), HE.out.2 x h3]
    exact HV.out.2.2.2.2.block x (H.out.k.xlt x hx) (by simp)
end
end Go.Proofs.Ytcppnmogdmpdbaa
