/- The document's answer for Due, walked. -/
import Derived.Test.YtcppnmogdmpdbaaLc
set_option linter.unusedVariables false
set_option linter.unusedSimpArgs false
namespace Go.Proofs.Ytcppnmogdmpdbaa
open Go.RowKit Go.Mk Go.Hp
attribute [-go_sem] Builtin.append_ sliced

def encG (p : Ab × Value) : List Value := [.int .u64 p.1.tr.1, .int .u64 p.1.tr.2, p.2]
def lenV : Value → Nat
  | .slice _ n _ => n
  | _ => 0

theorem trace_cut {w : World} {X Y : List (Ab × Value)} {sv : Value} {p : Option Addr} {n c : Nat} (h : SliceIs w 133 5 (X.map encP) sv) (hm : SliceIs w 133 5 (Y.map encP) (.slice p n c)) (hv : ∀ y ∈ Y, y.2.oneCell' = true) {l r : Nat} (hlr : l ≤ r) (hr : r ≤ Y.length) (hl : X.length + Y.length ≤ 100000) :
    ∃ g cap' w', (Builtin.append_ #[85, 85] 85 #[sv, sliced p l r c 5]).run Try.prog w = .ok (.slice g (X.length + (r - l)) cap') w' ∧
      SliceIs w' 133 5 ((X ++ (Y.take r).drop l).map encP) (.slice g (X.length + (r - l)) cap') ∧ Only (blockOf sv) w w' ∧ (∀ x ∈ blockOf (.slice g (X.length + (r - l)) cap'), x ∈ blockOf sv ∨ w.heap.size ≤ x) := by
  obtain ⟨i0, hi0, hz0, hz1, hz2⟩ := info_rtrace
  have h2 := cut_append (P := Try.prog) Try.underlying85 hi0 hz0 hz1 hz2 rfl (by omega) h hm hlr (by rw [List.length_map]; exact hr) (by rw [List.length_map, List.length_map]; exact hl)
    (by
      intro y hy u hu
      obtain ⟨s, hs, rfl⟩ := List.mem_map.1 hy
      simp only [encP, List.mem_cons, List.not_mem_nil, or_false] at hu
      rcases hu with rfl | rfl | rfl | rfl | rfl
      · rfl
      · rfl
      · rfl
      · rfl
      · exact hv s hs)
  rw [List.length_map] at h2
  obtain ⟨g, cap', w', hap, hsl, ho, hg⟩ := h2
  exact ⟨g, cap', w', hap, by rw [List.map_append, List.map_drop, List.map_take]; exact hsl, ho, hg⟩

theorem group_push {w : World} {D : List (Ab × Value)} {ov : Value} (h : SliceIs w 71 3 (D.map encG) ov) (hl : D.length ≤ 50000) (a : Ab) (sp : Option Addr) (m sc : Nat) :
    ∃ g off cap' w', (Builtin.append_ #[66, 66] 66 #[ov, .slice (some ⟨w.heap.size, 0, none⟩) 1 1]).run Try.prog (w.alloc (.cells #[.int .u64 a.tr.1, .int .u64 a.tr.2, .slice sp m sc] 71)) = .ok (.slice (some ⟨g, off, none⟩) (D.length + 1) cap') w' ∧
      SliceIs w' 71 3 ((D ++ [(a, Value.slice sp m sc)]).map encG) (.slice (some ⟨g, off, none⟩) (D.length + 1) cap') ∧ Only (blockOf ov) w w' ∧ (g ∈ blockOf ov ∨ w.heap.size ≤ g) := by
  obtain ⟨i0, z0, hi0, hz0, hz1, hz2, hz3⟩ := info_group
  have h2 := row_append1 (P := Try.prog) Try.underlying66 hi0 hz0 hz1 rfl hz3 hz2 h (by rw [List.length_map]; omega) #[.int .u64 a.tr.1, .int .u64 a.tr.2, .slice sp m sc] rfl (by simp [Value.oneCell'])
  rw [List.length_map] at h2
  obtain ⟨g, off, cap', w', hap, hsl, ho, hg⟩ := h2
  exact ⟨g, off, cap', w', hap, by rw [List.map_append]; exact hsl, ho, hg⟩

theorem due_parts {A D R : List Ab} {n : Int} (hA : A = D ++ R) (hD : ∀ a ∈ D, a.due ≤ n) (hR : ∀ a R', R = a :: R' → n < a.due) : D = dueA n A ∧ R = restA n A := by
  subst hA
  unfold dueA restA
  induction D with
  | nil =>
    cases R with
    | nil => exact ⟨rfl, rfl⟩
    | cons a R' =>
      have h1 : decide (a.due ≤ n) = false := decide_eq_false (by have := hR a R' rfl; omega)
      simp only [List.nil_append, List.takeWhile_cons, List.dropWhile_cons, h1]
      exact ⟨rfl, rfl⟩
  | cons d D ih =>
    have h1 : decide (d.due ≤ n) = true := decide_eq_true (hD d (by simp))
    obtain ⟨h2, h3⟩ := ih (fun a ha => hD a (by simp [ha]))
    simp only [List.cons_append, List.takeWhile_cons, List.dropWhile_cons, h1, if_true]
    exact ⟨by rw [← h2], h3⟩

section
variable {w : World} {lp kp : Option Addr} {lc kc : Nat} {P : List (Ab × Value)} {K : List Dec}

set_option maxRecDepth 100000 in
set_option maxHeartbeats 4000000 in
theorem ref13_Due_not (ms wt ch nw cm n : Int) (hn : n < nw ∨ 1099511627776 < n) (w : World) :
    Calls Try.prog 56 #[.agg #[.int .i64 ms, .int .i64 wt, .int .i64 ch, .int .i64 nw, .int .i64 cm, .slice lp P.length lc, .slice kp K.length kc], .int .i64 n] w fun e w' => e = .returned (.tuple #[.agg #[.int .i64 ms, .int .i64 wt, .int .i64 ch, .int .i64 nw, .int .i64 cm, .slice lp P.length lc, .slice kp K.length kc], .slice none 0 0, .int .i64 60]) ∧ Only [] w w' := by
  go_enter Try.func56, Try.ntmps56
  have hcs : decide (n < nw) = true ∨ (decide (n < nw) = false ∧ decide (1099511627776 < n) = true) := by
    by_cases h : n < nw
    · exact .inl (decide_eq_true h)
    · exact .inr ⟨decide_eq_false h, decide_eq_true (hn.resolve_left h)⟩
  clear hn
  rcases hcs with h1 | ⟨h1, h2⟩
  all_goals
    go_wp2_with fail
    refine bodyPost_ret (v := .tuple #[.agg #[.int .i64 ms, .int .i64 wt, .int .i64 ch, .int .i64 nw, .int .i64 cm, .slice lp P.length lc, .slice kp K.length kc], .slice none 0 0, .int .i64 60]) (by simp [results, Try.results56, go_sem]; try rfl) rfl ?_
    exact ⟨rfl, ((Only.refl _ _).alloc _).alloc _⟩

set_option maxRecDepth 100000 in
set_option maxHeartbeats 8000000 in
theorem ref13_Due (h : RefB w (.slice lp P.length lc) (.slice kp K.length kc) P K) (hs : (P.map (fun p => p.1.due)).Pairwise (· ≤ ·)) (hP : P.length ≤ 5000) (ms wt ch nw cm n : Int) (hn1 : nw ≤ n) (hn2 : n ≤ 1099511627776) :
    Calls Try.prog 56 #[.agg #[.int .i64 ms, .int .i64 wt, .int .i64 ch, .int .i64 nw, .int .i64 cm, .slice lp P.length lc, .slice kp K.length kc], .int .i64 n] w fun e w' => ∃ (lp' : Option Addr) (lc' : Nat) (P' D : List (Ab × Value)) (g : Option Addr) (gc : Nat), e = .returned (.tuple #[.agg #[.int .i64 ms, .int .i64 wt, .int .i64 ch, .int .i64 n, .int .i64 cm, .slice lp' P'.length lc', .slice kp K.length kc], .slice g D.length gc, .int .i64 0]) ∧
      D.map (·.1) = dueA n (P.map (·.1)) ∧ P'.map (·.1) = restA n (P.map (·.1)) ∧ RefB w' (.slice lp' P'.length lc') (.slice kp K.length kc) P' K ∧ SliceIs w' 71 3 (D.map encG) (.slice g D.length gc) ∧ (∀ p ∈ D, SliceIs w' 65 10 (p.1.sps.map Sp.cells) p.2) ∧ Only [] w w' ∧ (∀ x ∈ rbl P' (.slice lp' P'.length lc') (.slice kp K.length kc), x ∈ rbl P (.slice lp P.length lc) (.slice kp K.length kc) ∨ w.heap.size ≤ x) ∧ (∀ x ∈ blockOf (.slice g D.length gc), w.heap.size ≤ x) ∧ (∀ p ∈ D, ∀ x ∈ blockOf p.2, x ∈ rbl P (.slice lp P.length lc) (.slice kp K.length kc)) := by
  obtain ⟨w1, hww⟩ : ∃ w1, w1 = ((w.alloc (.cells #[.int .i64 ms, .int .i64 wt, .int .i64 ch, .int .i64 n, .int .i64 cm, .slice lp P.length lc, .slice kp K.length kc] 88)).alloc (.cells #[.int .i64 0, .int .i64 0, .int .i64 0, .int .i64 0, .int .i64 0, .slice none 0 0, .slice none 0 0] 88)) := ⟨_, rfl⟩
  have o1 : Only [] w w1 := by rw [hww]; exact ((Only.refl _ _).alloc _).alloc _
  obtain ⟨b, hb⟩ : ∃ b, b = w.heap.size := ⟨_, rfl⟩
  obtain ⟨b1, hb1⟩ : ∃ b1, b1 = b + 1 := ⟨_, rfl⟩
  have k0 : w1.heap[b]? = some (.cells #[.int .i64 ms, .int .i64 wt, .int .i64 ch, .int .i64 n, .int .i64 cm, .slice lp P.length lc, .slice kp K.length kc] 88 (0, 0)) := by
    rw [hww, hb]; exact ((Only.refl [] _).alloc _).blk (heap_alloc_new w _) (by simp)
  have k1 : w1.heap[b1]? = some (.cells #[.int .i64 0, .int .i64 0, .int .i64 0, .int .i64 0, .int .i64 0, .slice none 0 0, .slice none 0 0] 88 (0, 0)) := by
    rw [hww, hb1, hb]
    have h1 := heap_alloc_new (w.alloc (.cells #[.int .i64 ms, .int .i64 wt, .int .i64 ch, .int .i64 n, .int .i64 cm, .slice lp P.length lc, .slice kp K.length kc] 88)) (.cells #[.int .i64 0, .int .i64 0, .int .i64 0, .int .i64 0, .int .i64 0, .slice none 0 0, .slice none 0 0] 88)
    rw [show (w.alloc (.cells #[.int .i64 ms, .int .i64 wt, .int .i64 ch, .int .i64 n, .int .i64 cm, .slice lp P.length lc, .slice kp K.length kc] 88)).heap.size = w.heap.size + 1 by simp] at h1
    exact h1
  have g1 : decide (n < nw) = false := decide_eq_false (by omega)
  have g2 : decide (1099511627776 < n) = false := decide_eq_false (by omega)
  have hR1 := h.only o1 (by simp)
  have H := Lib.hid (And.intro hR1 (And.intro o1 hs))
  obtain ⟨R0, hR0⟩ : ∃ R0, R0 = rbl P (.slice lp P.length lc) (.slice kp K.length kc) := ⟨_, rfl⟩
  rw [← hR0]
  have Hlt := Lib.hid (show ∀ x ∈ R0, x < b by rw [hR0, hb]; exact h.lt)
  have HRP := Lib.hid (show ∀ p ∈ P, ∀ x ∈ blockOf p.2, x ∈ R0 from fun p hp x hx => by rw [hR0]; exact mem_rbl.2 (.inr (.inr ⟨p, hp, hx⟩)))
  have HRK := Lib.hid (show ∀ x ∈ blockOf (.slice kp K.length kc), x ∈ R0 from fun x hx => by rw [hR0]; exact mem_rbl.2 (.inr (.inl hx)))
  have HRL := Lib.hid (show ∀ x ∈ blockOf (.slice lp P.length lc), x ∈ R0 from fun x hx => by rw [hR0]; exact mem_rbl.2 (.inl hx))
  clear hR0
  have HB := Lib.hid (And.intro k0 k1)
  have Hsz := Lib.hid (show w.heap.size = b ∧ b1 = b + 1 ∧ w.heap.size ≤ w1.heap.size from ⟨hb.symm, hb1, o1.size⟩)
  have HC0 := Lib.hid (ref13_first hR1 hs (by omega) ms wt ch n cm)
  have HP := Lib.hid hP
  clear h o1 hs hR1
  go_enter Try.func56, Try.ntmps56
  go_wp2_with fail
  rw [← hww, ← hb, ← hb1]
  have l0 : b < w1.heap.size := lt_of_blk k0
  have l1 : b1 < w1.heap.size := lt_of_blk k1
  have d0 : w1.cell? ⟨b, 0, none⟩ = some (.int .i64 ms) := blk_cells k0 0 _ rfl
  have d1 : w1.cell? ⟨b, 1, none⟩ = some (.int .i64 wt) := blk_cells k0 1 _ rfl
  have d2 : w1.cell? ⟨b, 2, none⟩ = some (.int .i64 ch) := blk_cells k0 2 _ rfl
  have d3 : w1.cell? ⟨b, 3, none⟩ = some (.int .i64 n) := blk_cells k0 3 _ rfl
  have d4 : w1.cell? ⟨b, 4, none⟩ = some (.int .i64 cm) := blk_cells k0 4 _ rfl
  have d5 : w1.cell? ⟨b, 5, none⟩ = some (.slice lp P.length lc) := blk_cells k0 5 _ rfl
  have d6 : w1.cell? ⟨b, 6, none⟩ = some (.slice kp K.length kc) := blk_cells k0 6 _ rfl
  refine HC0.out.mono ?_
  rintro e w2 ⟨rfl, o2⟩
  have HO2 := Lib.hid o2
  clear k0 k1 hww hb hb1 g1 g2 d0 d1 d2 d3 d4 d5 d6 o2 HC0 hP
  go_wp2_with fail
  go_loopw [7, 8] (fun ov kv wr => ∃ (D P1 : List (Ab × Value)) (lp1 : Option Addr) (lc1 : Nat), kv = .int .i64 (firstI P1) ∧ P = D ++ P1 ∧ (∀ p ∈ D, p.1.due ≤ n) ∧ SliceIs wr 71 3 (D.map encG) ov ∧ (∀ x ∈ blockOf ov, w1.heap.size ≤ x) ∧ wr.heap[b]? = some (.cells #[.int .i64 ms, .int .i64 wt, .int .i64 ch, .int .i64 n, .int .i64 cm, .slice lp1 P1.length lc1, .slice kp K.length kc] 88 (0, 0)) ∧ SliceIs wr 133 5 (P1.map encP) (.slice lp1 P1.length lc1) ∧ (∀ x ∈ blockOf (.slice lp1 P1.length lc1), x ∉ blockOf ov ∧ (x ∈ R0 ∨ w1.heap.size ≤ x)) ∧ Only [b] w1 wr) (fun ov _ _ => P.length - lenV ov)
  case atStart =>
    exact ⟨[], P, lp, lc, rfl, rfl, by simp, SliceIs.nil, by simp [blockOf], HO2.out.blk HB.out.1 (by simp), H.out.1.l.only HO2.out (by simp), fun x hx => ⟨by simp [blockOf], .inl (HRL.out x hx)⟩, HO2.out.mono (by simp)⟩
  case round =>
    obtain ⟨D, P1, lp1, lc1, rfl, hPD, hD, hG, hGn, kb, hL, hLb, ow⟩ := hrel
    obtain ⟨og, oc, hov⟩ := hG.form
    rw [List.length_map] at hov
    subst hov
    have hlt0 : b < wr.heap.size := lt_of_blk kb
    have n01 : ¬ b = b1 := by have := Hsz.out; omega
    have n10 : ¬ b1 = b := fun h => n01 h.symm
    have kb1 : wr.heap[b1]? = some (.cells #[.int .i64 0, .int .i64 0, .int .i64 0, .int .i64 0, .int .i64 0, .slice none 0 0, .slice none 0 0] 88 (0, 0)) := ow.blk HB.out.2 (by simp only [List.mem_singleton]; exact n10)
    have hlt1 : b1 < wr.heap.size := lt_of_blk kb1
    have hcs : (P1 = [] ∨ ∃ q P2, P1 = q :: P2 ∧ n < q.1.due) ∨ ∃ q P2, P1 = q :: P2 ∧ q.1.due ≤ n := by
      cases P1 with
      | nil => exact .inl (.inl rfl)
      | cons q P2 =>
        by_cases h : q.1.due ≤ n
        · exact .inr ⟨q, P2, rfl, h⟩
        · exact .inl (.inr ⟨q, P2, rfl, by omega⟩)
    have HF := Lib.hid (fun (hR : ∀ a R', P1.map (·.1) = a :: R' → n < a.due) => due_parts (n := n) (A := P.map (·.1)) (D := D.map (·.1)) (R := P1.map (·.1)) (by rw [hPD, List.map_append]) (fun a ha => by obtain ⟨p, hp, rfl⟩ := List.mem_map.1 ha; exact hD p hp) hR)
    have d0 : wr.cell? ⟨b, 0, none⟩ = some (.int .i64 ms) := blk_cells kb 0 _ rfl
    have d1 : wr.cell? ⟨b, 1, none⟩ = some (.int .i64 wt) := blk_cells kb 1 _ rfl
    have d2 : wr.cell? ⟨b, 2, none⟩ = some (.int .i64 ch) := blk_cells kb 2 _ rfl
    have d3 : wr.cell? ⟨b, 3, none⟩ = some (.int .i64 n) := blk_cells kb 3 _ rfl
    have d4 : wr.cell? ⟨b, 4, none⟩ = some (.int .i64 cm) := blk_cells kb 4 _ rfl
    have d5 : wr.cell? ⟨b, 5, none⟩ = some (.slice lp1 P1.length lc1) := blk_cells kb 5 _ rfl
    have d6 : wr.cell? ⟨b, 6, none⟩ = some (.slice kp K.length kc) := blk_cells kb 6 _ rfl
    have f0 : wr.cell? ⟨b1, 0, none⟩ = some (.int .i64 0) := blk_cells kb1 0 _ rfl
    have f1 : wr.cell? ⟨b1, 1, none⟩ = some (.int .i64 0) := blk_cells kb1 1 _ rfl
    have f2 : wr.cell? ⟨b1, 2, none⟩ = some (.int .i64 0) := blk_cells kb1 2 _ rfl
    have f3 : wr.cell? ⟨b1, 3, none⟩ = some (.int .i64 0) := blk_cells kb1 3 _ rfl
    have f4 : wr.cell? ⟨b1, 4, none⟩ = some (.int .i64 0) := blk_cells kb1 4 _ rfl
    have f5 : wr.cell? ⟨b1, 5, none⟩ = some (.slice none 0 0) := blk_cells kb1 5 _ rfl
    have f6 : wr.cell? ⟨b1, 6, none⟩ = some (.slice none 0 0) := blk_cells kb1 6 _ rfl
    have z1 : ∀ j, wr.frozen? ⟨b1, j, none⟩ = false := fun j => frozen_of_blk kb1
    rcases hcs with hend | ⟨⟨qa, qv⟩, P2, rfl, hqd⟩
    · have HR1 := Lib.hid (show ∀ a R', P1.map (·.1) = a :: R' → n < a.due from fun a R' he => by
        rcases hend with rfl | ⟨q, P2, rfl, hq⟩
        · cases he
        · simp only [List.map_cons, List.cons.injEq] at he
          rw [← he.1]
          exact hq)
      have HD := Lib.hid (show ∀ p ∈ D, SliceIs wr 65 10 (p.1.sps.map Sp.cells) p.2 ∧ ∀ x ∈ blockOf p.2, x < b from fun p hp => by
        have hp' : p ∈ P := by rw [hPD]; exact List.mem_append.2 (.inl hp)
        have hx : ∀ x ∈ blockOf p.2, x < b := fun x hx => Hlt.out x (HRP.out p hp' x hx)
        exact ⟨(H.out.1.s p hp').only ow (fun x h1 h2 => by have := hx x h1; simp only [List.mem_singleton] at h2; omega), hx⟩)
      have HE := Lib.hid (show ∀ p ∈ P1, SliceIs wr 65 10 (p.1.sps.map Sp.cells) p.2 ∧ ∀ x ∈ blockOf p.2, x < b from fun p hp => by
        have hp' : p ∈ P := by rw [hPD]; exact List.mem_append.2 (.inr hp)
        have hx : ∀ x ∈ blockOf p.2, x < b := fun x hx => Hlt.out x (HRP.out p hp' x hx)
        exact ⟨(H.out.1.s p hp').only ow (fun x h1 h2 => by have := hx x h1; simp only [List.mem_singleton] at h2; omega), hx⟩)
      have HEr := Lib.hid (show ∀ p ∈ P1, ∀ x ∈ blockOf p.2, x ∈ R0 from fun p hp => HRP.out p (by rw [hPD]; exact List.mem_append.2 (.inr hp)))
      have HDr := Lib.hid (show ∀ p ∈ D, ∀ x ∈ blockOf p.2, x ∈ R0 from fun p hp => HRP.out p (by rw [hPD]; exact List.mem_append.2 (.inl hp)))
      have HK := Lib.hid (show SliceIs wr 140 3 (K.map encK) (.slice kp K.length kc) ∧ ∀ x ∈ blockOf (.slice kp K.length kc), x < b from ⟨H.out.1.k.only ow (fun x h1 h2 => by have := Hlt.out x (HRK.out x h1); simp only [List.mem_singleton] at h2; omega), fun x h1 => Hlt.out x (HRK.out x h1)⟩)
      have HG := Lib.hid (And.intro hG (And.intro hGn (And.intro hL (And.intro hLb ow))))
      have hgate : firstI P1 = -1 ∨ (firstI P1 = 0 ∧ ∃ q P2, P1 = q :: P2 ∧ n < q.1.due) := by
        rcases hend with rfl | ⟨q, P2, rfl, hq⟩
        · exact .inl rfl
        · exact .inr ⟨if_neg (by simp), q, P2, rfl, hq⟩
      clear hend hG hGn kb hL hLb ow kb1 hPD hD
      rcases hgate with hf | ⟨hf, q, P2, hq, hqn⟩
      · rw [hf]
        clear hf
        go_wp2_with fail
        refine bodyPost_ret (v := .tuple #[.agg #[.int .i64 ms, .int .i64 wt, .int .i64 ch, .int .i64 n, .int .i64 cm, .slice lp1 P1.length lc1, .slice kp K.length kc], .slice og D.length oc, .int .i64 0]) (by simp [results, Try.results56, go_sem, *]; try rfl) rfl ?_
        obtain ⟨q1, q2⟩ := HF.out HR1.out
        have oW := only_set7 wr b1 (.int .i64 ms) (.int .i64 wt) (.int .i64 ch) (.int .i64 n) (.int .i64 cm) (.slice lp1 P1.length lc1) (.slice kp K.length kc)
        refine ⟨_, lc1, P1, D, og, oc, rfl, q1, q2, ⟨?_, ?_, ?_⟩, ?_, ?_, ?_, ?_, ?_, ?_⟩
        · exact HG.out.2.2.1.only oW (fun x hx hm => by have h0 := Hsz.out; simp only [List.mem_singleton] at hm; rcases (HG.out.2.2.2.1 x hx).2 with h1 | h1; (have := Hlt.out x h1; omega); omega)
        · exact fun p hp => (HE.out p hp).1.only oW (fun x hx hm => by have := (HE.out p hp).2 x hx; have := Hsz.out; simp only [List.mem_singleton] at hm; omega)
        · exact HK.out.1.only oW (fun x hx hm => by have := HK.out.2 x hx; have := Hsz.out; simp only [List.mem_singleton] at hm; omega)
        · exact HG.out.1.only oW (fun x hx hm => by have := HG.out.2.1 x hx; simp only [List.mem_singleton] at hm; omega)
        · exact fun a v hp => (HD.out (a, v) hp).1.only oW (fun x hx hm => by have := (HD.out (a, v) hp).2 x hx; have := Hsz.out; simp only [List.mem_singleton] at hm; omega)
        · exact (H.out.2.1.trans' HG.out.2.2.2.2 (fun x hx hlt => by have := Hsz.out; simp only [List.mem_singleton] at hx; omega)).trans' oW (fun x hx hlt => by have := Hsz.out; simp only [List.mem_singleton] at hx; omega)
        · intro x hx
          have h0 := Hsz.out
          rcases mem_rbl.1 hx with h | h | ⟨p, hp, h⟩
          · exact (HG.out.2.2.2.1 x h).2.imp id (fun h => by omega)
          · exact .inl (HRK.out x h)
          · exact .inl (HEr.out p hp x h)
        · exact fun x hx => by have := HG.out.2.1 x hx; have := Hsz.out; omega
        · exact fun a v hp => HDr.out (a, v) hp
      · rw [hf]
        have hl0 : 0 < P1.length := by rw [hq]; simp
        obtain ⟨g, off, hg, hgl, hx⟩ := row_cells (j := 0) HG.out.2.2.1 (by rw [hq]; rfl)
        have x0 := hx 0 _ rfl
        simp only [Nat.zero_mul, Nat.add_zero] at x0
        have g3 : decide (q.1.due ≤ n) = false := decide_eq_false (by omega)
        have hlI : (0 : Int) < (P1.length : Int) := by omega
        subst hg
        clear hf hx hq hqn
        go_wp2_with fail
        refine bodyPost_ret (v := .tuple #[.agg #[.int .i64 ms, .int .i64 wt, .int .i64 ch, .int .i64 n, .int .i64 cm, .slice (some ⟨g, off, none⟩) P1.length lc1, .slice kp K.length kc], .slice og D.length oc, .int .i64 0]) (by simp [results, Try.results56, go_sem, *]; try rfl) rfl ?_
        obtain ⟨q1, q2⟩ := HF.out HR1.out
        have oW := only_set7 wr b1 (.int .i64 ms) (.int .i64 wt) (.int .i64 ch) (.int .i64 n) (.int .i64 cm) (.slice (some ⟨g, off, none⟩) P1.length lc1) (.slice kp K.length kc)
        refine ⟨_, lc1, P1, D, og, oc, rfl, q1, q2, ⟨?_, ?_, ?_⟩, ?_, ?_, ?_, ?_, ?_, ?_⟩
        · exact HG.out.2.2.1.only oW (fun x hx hm => by have h0 := Hsz.out; simp only [List.mem_singleton] at hm; rcases (HG.out.2.2.2.1 x hx).2 with h1 | h1; (have := Hlt.out x h1; omega); omega)
        · exact fun p hp => (HE.out p hp).1.only oW (fun x hx hm => by have := (HE.out p hp).2 x hx; have := Hsz.out; simp only [List.mem_singleton] at hm; omega)
        · exact HK.out.1.only oW (fun x hx hm => by have := HK.out.2 x hx; have := Hsz.out; simp only [List.mem_singleton] at hm; omega)
        · exact HG.out.1.only oW (fun x hx hm => by have := HG.out.2.1 x hx; simp only [List.mem_singleton] at hm; omega)
        · exact fun a v hp => (HD.out (a, v) hp).1.only oW (fun x hx hm => by have := (HD.out (a, v) hp).2 x hx; have := Hsz.out; simp only [List.mem_singleton] at hm; omega)
        · exact (H.out.2.1.trans' HG.out.2.2.2.2 (fun x hx hlt => by have := Hsz.out; simp only [List.mem_singleton] at hx; omega)).trans' oW (fun x hx hlt => by have := Hsz.out; simp only [List.mem_singleton] at hx; omega)
        · intro x hx
          have h0 := Hsz.out
          rcases mem_rbl.1 hx with h | h | ⟨p, hp, h⟩
          · exact (HG.out.2.2.2.1 x h).2.imp id (fun h => by omega)
          · exact .inl (HRK.out x h)
          · exact .inl (HEr.out p hp x h)
        · exact fun x hx => by have := HG.out.2.1 x hx; have := Hsz.out; omega
        · exact fun a v hp => HDr.out (a, v) hp
    · have hf : firstI ((qa, qv) :: P2) = 0 := if_neg (by simp)
      rw [hf]
      simp only [List.length_cons] at d5 hL hLb kb
      have hq' : (qa, qv) ∈ P := by rw [hPD]; simp
      have hqs := H.out.1.s _ hq'
      have hql : ∀ x ∈ blockOf qv, x < b := fun x hx => Hlt.out x (HRP.out _ hq' x hx)
      obtain ⟨sa, sc, hsv⟩ := hqs.form
      simp only [List.length_map] at hsv
      subst hsv
      generalize qa.sps.length = sm at *
      obtain ⟨g, off, hg, hgl, hx⟩ := row_cells (j := 0) hL rfl
      have x0 := hx 0 _ rfl
      have x1 := hx 1 _ rfl
      have x2 := hx 2 _ rfl
      have x3 := hx 3 _ rfl
      have x4 := hx 4 _ rfl
      simp only [Nat.zero_mul, Nat.add_zero] at x0 x1 x2 x3 x4
      have hPl : P.length = D.length + (P2.length + 1) := by rw [hPD]; simp
      have hP5 := HP.out
      -- the group
      obtain ⟨wa, hwa⟩ : ∃ wa, wa = wr.alloc (.cells #[.int .i64 qa.due, .int .i64 qa.no, .int .u64 qa.tr.1, .int .u64 qa.tr.2, .slice sa sm sc] 133) := ⟨_, rfl⟩
      have oa : Only [] wr wa := by rw [hwa]; exact (Only.refl _ _).alloc _
      have hsz : wa.heap.size = wr.heap.size + 1 := by rw [hwa]; simp
      obtain ⟨gb, ob, cb, w3, hap1, hG3, o3, hgb⟩ := group_push (hG.only oa (by simp)) (by omega) qa sa sm sc
      rw [hsz, hwa] at hap1
      have o03 : Only (blockOf (.slice og D.length oc)) wr w3 := (oa.mono (by simp)).trans o3
      -- the front, and what is behind
      have hov1 : ∀ y ∈ ((qa, Value.slice sa sm sc) :: P2), y.2.oneCell' = true := fun y hy => by
        have hy' : y ∈ P := by rw [hPD]; exact List.mem_append.2 (.inr hy)
        obtain ⟨p3, c3, h3⟩ := (H.out.1.s y hy').form
        rw [h3]; rfl
      have hL3 := hL.only o03 (fun x hx => (hLb x hx).1)
      obtain ⟨ga, ca, w4, hap2, hA4, o4, hb4⟩ := trace_cut (X := []) (sv := .slice none 0 0) SliceIs.nil hL3 hov1 (l := 0) (r := 0) (by omega) (by simp) (by simp only [List.length_cons, List.length_nil]; omega)
      simp only [List.length_nil, Nat.sub_self, Nat.add_zero, List.take_zero, List.drop_nil, List.append_nil] at hap2 hA4 hb4
      have hL4 := hL3.only o4 (by simp [blockOf])
      obtain ⟨g2, c2, w5, hap3, hA5, o5, hb5⟩ := trace_cut (X := []) hA4 hL4 hov1 (l := 1) (r := P2.length + 1) (by omega) (by simp) (by simp only [List.length_cons, List.length_nil]; omega)
      rw [List.take_of_length_le (by simp)] at hA5
      simp only [List.length_nil, Nat.zero_add, Nat.add_sub_cancel, List.drop_succ_cons, List.drop_zero, List.nil_append] at hap3 hA5 hb5
      have hb4' : ∀ x ∈ blockOf (.slice ga 0 ca), w3.heap.size ≤ x := fun x hx => (hb4 x hx).resolve_left (by simp [blockOf])
      have hb5' : ∀ x ∈ blockOf (.slice g2 P2.length c2), w3.heap.size ≤ x := fun x hx => by
        rcases hb5 x hx with h | h
        · exact hb4' x h
        · exact Nat.le_trans o4.size h
      have hgbl := hG3.lt gb (by simp [blockOf])
      have s03 := o03.size
      have s4 := o4.size
      have s5 := o5.size
      have sw := ow.size
      have hbo : b ∉ blockOf (.slice og D.length oc) := fun hm => by have := hGn b hm; omega
      have hgbn : w1.heap.size ≤ gb := by
        rcases hgb with h | h
        · exact hGn _ h
        · omega
      have kb3 := o03.blk kb hbo
      have kb4 := o4.blk kb3 (by simp [blockOf])
      have kb5 := o5.blk kb4 (fun hm => by have := hb4' b hm; omega)
      have ow5 : Only [b] w1 w5 := ((ow.trans' o03 (fun x hx hlt => absurd (hGn x hx) (by omega))).trans' o4 (fun x hx => by simp [blockOf] at hx)).trans' o5 (fun x hx hlt => absurd (hb4' x hx) (by omega))
      have hG5 := (hG3.only o4 (by simp [blockOf])).only o5 (fun x hx hm => by
        simp only [blockOf, List.mem_singleton] at hx
        have := hb4' x hm
        omega)
      obtain ⟨w6, hw6⟩ : ∃ w6, w6 = w5.setCell ⟨b, 5, none⟩ (.slice g2 P2.length c2) := ⟨_, rfl⟩
      have o6 : Only [b] w5 w6 := by rw [hw6]; exact (Only.refl _ _).setCell (.inl (by simp)) _
      have ow6 := ow5.trans o6
      have kb6 : w6.heap[b]? = some (.cells #[.int .i64 ms, .int .i64 wt, .int .i64 ch, .int .i64 n, .int .i64 cm, .slice g2 P2.length c2, .slice kp K.length kc] 88 (0, 0)) := by rw [hw6]; exact setCell_blk (i := 5) kb5
      have hG6 := hG5.only o6 (fun x hx hm => by
        simp only [blockOf, List.mem_singleton] at hx hm
        omega)
      have hA6 := hA5.only o6 (fun x hx hm => by
        have := hb5' x hx
        simp only [List.mem_singleton] at hm
        omega)
      have hR6 : RefB w6 (.slice g2 P2.length c2) (.slice kp K.length kc) P2 K := by
        refine ⟨hA6, fun p hp => ?_, H.out.1.k.only ow6 (fun x h1 h2 => by have := Hlt.out x (HRK.out x h1); simp only [List.mem_singleton] at h2; omega)⟩
        have hp' : p ∈ P := by rw [hPD]; simp [hp]
        exact (H.out.1.s p hp').only ow6 (fun x h1 h2 => by have := Hlt.out x (HRP.out p hp' x h1); simp only [List.mem_singleton] at h2; omega)
      have hs2 : (P2.map (fun p => p.1.due)).Pairwise (· ≤ ·) := by
        have h1 := H.out.2.2
        rw [hPD, List.map_append, List.map_cons] at h1
        exact (List.pairwise_cons.1 (List.pairwise_append.1 h1).2.1).2
      have HC := Lib.hid (ref13_first hR6 hs2 (by omega) ms wt ch n cm)
      have HG := Lib.hid (And.intro hG6 (And.intro (show ∀ x ∈ blockOf (.slice (some ⟨gb, ob, none⟩) (D.length + 1) cb), w1.heap.size ≤ x by
          intro x hx; simp only [blockOf, List.mem_singleton] at hx; omega) (And.intro kb6 (And.intro hA6 (And.intro (show ∀ x ∈ blockOf (.slice g2 P2.length c2), x ∉ blockOf (.slice (some ⟨gb, ob, none⟩) (D.length + 1) cb) ∧ (x ∈ R0 ∨ w1.heap.size ≤ x) from fun x hx => ⟨fun hm => by
            simp only [blockOf, List.mem_singleton] at hm
            have := hb5' x hx
            omega, .inr (by have := hb5' x hx; omega)⟩) ow6)))))
      have HPD := Lib.hid (show P = (D ++ [(qa, Value.slice sa sm sc)]) ++ P2 by rw [hPD]; simp)
      have HDn := Lib.hid (show ∀ p ∈ D ++ [(qa, Value.slice sa sm sc)], p.1.due ≤ n from fun p hp => by
        rcases List.mem_append.1 hp with h | h
        · exact hD p h
        · rw [List.mem_singleton.1 h]; exact hqd)
      have hlen := Lib.hid hPl
      have y5 : w3.cell? ⟨b, 5, none⟩ = some (.slice lp1 (P2.length + 1) lc1) := blk_cells kb3 5 _ rfl
      have v5 : w4.cell? ⟨b, 5, none⟩ = some (.slice lp1 (P2.length + 1) lc1) := blk_cells kb4 5 _ rfl
      have l3 : b < w3.heap.size := lt_of_blk kb3
      have l4 : b < w4.heap.size := lt_of_blk kb4
      have l5 : b < w5.heap.size := lt_of_blk kb5
      have la3 : wr.heap.size < w3.heap.size := by have := o3.size; omega
      have P2I : (P2.length : Int) + 1 ≤ 5000 := by omega
      have hcap := hL.fits
      simp only [List.length_map, List.length_cons] at hcap
      have hcapI : (P2.length : Int) + 1 ≤ (lc1 : Int) := by omega
      have e0 : w5.cell? ⟨b, 0, none⟩ = some (.int .i64 ms) := blk_cells kb5 0 _ rfl
      have e1 : w5.cell? ⟨b, 1, none⟩ = some (.int .i64 wt) := blk_cells kb5 1 _ rfl
      have e2 : w5.cell? ⟨b, 2, none⟩ = some (.int .i64 ch) := blk_cells kb5 2 _ rfl
      have e3 : w5.cell? ⟨b, 3, none⟩ = some (.int .i64 n) := blk_cells kb5 3 _ rfl
      have e4 : w5.cell? ⟨b, 4, none⟩ = some (.int .i64 cm) := blk_cells kb5 4 _ rfl
      have e5 : w5.cell? ⟨b, 5, none⟩ = some (.slice lp1 (P2.length + 1) lc1) := blk_cells kb5 5 _ rfl
      have e6 : w5.cell? ⟨b, 6, none⟩ = some (.slice kp K.length kc) := blk_cells kb5 6 _ rfl
      have z5 : ∀ j, w5.frozen? ⟨b, j, none⟩ = false := fun j => frozen_of_blk kb5
      have g3 : decide (qa.due ≤ n) = true := decide_eq_true hqd
      subst hg
      clear hx hPD hD hG hGn kb hL hLb ow kb1 hf hq' hqs hql hwa oa hsz hG3 o3 hgb o03 hov1 hL3 hA4 o4 hb4 hL4 hA5 o5 hb5 hb4' hb5' hgbl s03 s4 s5 sw hbo hgbn kb3 kb4 kb5 ow5 hG5 o6 ow6 kb6 hG6 hA6 hR6 hs2 hqd HF hPl
      go_wp2_with fail
      rw [← hw6]
      refine HC.out.mono ?_
      rintro e w7 ⟨rfl, o7⟩
      have O7 := Lib.hid o7
      clear o7 hw6
      go_wp2_with fail
      go_roundw
      case rel =>
        exact ⟨D ++ [(qa, .slice sa sm sc)], P2, g2, c2, rfl, HPD.out, HDn.out, by simpa using HG.out.1.only O7.out (by simp), HG.out.2.1, O7.out.blk HG.out.2.2.1 (by simp), HG.out.2.2.2.1.only O7.out (by simp), HG.out.2.2.2.2.1, HG.out.2.2.2.2.2.trans' O7.out (by simp)⟩
      case measure => have := hlen.out; simp [lenV]; omega
end
end Go.Proofs.Ytcppnmogdmpdbaa
