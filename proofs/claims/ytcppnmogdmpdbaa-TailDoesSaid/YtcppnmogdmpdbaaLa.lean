/- The document's answer of layer 13 in memory; its small functions, walked. -/
import Derived.Test.YtcppnmogdmpdbaaKx
import Derived.Deep.DeepCutAuto
set_option linter.unusedVariables false
set_option linter.unusedSimpArgs false
namespace Go.Proofs.Ytcppnmogdmpdbaa
open Go.RowKit Go.Mk Go.Hp
attribute [-go_sem] Builtin.append_

theorem row_cells {w : World} {e k : Nat} {xs : List (List Value)} {p : Option Addr} {n c j : Nat} {x : List Value} (h : SliceIs w e k xs (.slice p n c)) (hx : xs[j]? = some x) :
    ∃ g off, p = some ⟨g, off, none⟩ ∧ g < w.heap.size ∧ ∀ (f : Nat) (v : Value), x[f]? = some v → w.cell? ⟨g, off + j * k + f, none⟩ = some v := by
  generalize hV : Value.slice p n c = V at h
  cases h with
  | nil => cases hx
  | @row _ g off cap hr =>
    obtain ⟨h6, _, _⟩ := Value.slice.inj hV
    exact ⟨g, off, h6, hr.lt, fun f v hv => hr.cell hx hv⟩

def encP (p : Ab × Value) : List Value := [.int .i64 p.1.due, .int .i64 p.1.no, .int .u64 p.1.tr.1, .int .u64 p.1.tr.2, p.2]
def encK (d : Dec) : List Value := [.int .u64 d.1.1, .int .u64 d.1.2, .bool d.2]

/-- The reference's rows: its traces with their spans, and what is known. -/
structure RefB (w : World) (lv kv : Value) (P : List (Ab × Value)) (K : List Dec) : Prop where
  l : SliceIs w 133 5 (P.map encP) lv
  s : ∀ p ∈ P, SliceIs w 65 10 (p.1.sps.map Sp.cells) p.2
  k : SliceIs w 140 3 (K.map encK) kv
def rbl (P : List (Ab × Value)) (lv kv : Value) : List Nat := blockOf lv ++ (blockOf kv ++ P.flatMap fun p => blockOf p.2)

theorem mem_rbl {P : List (Ab × Value)} {lv kv : Value} {x : Nat} : x ∈ rbl P lv kv ↔ x ∈ blockOf lv ∨ x ∈ blockOf kv ∨ ∃ p ∈ P, x ∈ blockOf p.2 := by
  unfold rbl
  rw [List.mem_append, List.mem_append, List.mem_flatMap]

theorem RefB.only {w w' : World} {lv kv : Value} {P : List (Ab × Value)} {K : List Dec} {S : List Nat} (h : RefB w lv kv P K) (ho : Only S w w') (hn : ∀ x ∈ rbl P lv kv, x ∉ S) : RefB w' lv kv P K :=
  ⟨h.l.only ho (fun x hx => hn x (mem_rbl.2 (.inl hx))), fun p hp => (h.s p hp).only ho (fun x hx => hn x (mem_rbl.2 (.inr (.inr ⟨p, hp, hx⟩)))), h.k.only ho (fun x hx => hn x (mem_rbl.2 (.inr (.inl hx))))⟩
theorem RefB.keep {w w' : World} {lv kv : Value} {P : List (Ab × Value)} {K : List Dec} (h : RefB w lv kv P K) (hk : ∀ x ∈ rbl P lv kv, w'.heap[x]? = w.heap[x]?) : RefB w' lv kv P K :=
  ⟨keep_row h.l (fun x hx => hk x (mem_rbl.2 (.inl hx))), fun p hp => keep_row (h.s p hp) (fun x hx => hk x (mem_rbl.2 (.inr (.inr ⟨p, hp, hx⟩)))), keep_row h.k (fun x hx => hk x (mem_rbl.2 (.inr (.inl hx))))⟩
theorem RefB.lt {w : World} {lv kv : Value} {P : List (Ab × Value)} {K : List Dec} (h : RefB w lv kv P K) : ∀ x ∈ rbl P lv kv, x < w.heap.size := by
  intro x hx
  rcases mem_rbl.1 hx with h1 | h1 | ⟨p, hp, h1⟩
  · exact h.l.lt x h1
  · exact h.k.lt x h1
  · exact (h.s p hp).lt x h1

theorem spans_app (A B : List Ab) : spansA (A ++ B) = spansA A + spansA B := by simp [spansA]
theorem spans_le (A : List Ab) (i : Nat) : spansA (A.take i) ≤ spansA A := by
  have h : spansA A = spansA (A.take i) + spansA (A.drop i) := by rw [← spans_app, List.take_append_drop]
  omega

set_option maxRecDepth 100000 in
set_option maxHeartbeats 1000000 in
theorem ref13_New (s wt c : Int) (h1 : 1 ≤ s) (h2 : s ≤ 5000) (h3 : 1 ≤ wt) (h4 : wt ≤ 1099511627776) (h5 : 1 ≤ c) (h6 : c ≤ 5000) (w : World) :
    Calls Try.prog 39 #[.int .i64 s, .int .i64 wt, .int .i64 c] w fun e w' => e = .returned (.tuple #[.agg #[.int .i64 s, .int .i64 wt, .int .i64 c, .int .i64 0, .int .i64 0, .slice none 0 0, .slice none 0 0], .bool true]) ∧ Only [] w w' := by
  have g1 : decide (1 ≤ s) = true := decide_eq_true h1
  have g2 : decide (s ≤ 5000) = true := decide_eq_true h2
  have g3 : decide (1 ≤ wt) = true := decide_eq_true h3
  have g4 : decide (wt ≤ 1099511627776) = true := decide_eq_true h4
  have g5 : decide (1 ≤ c) = true := decide_eq_true h5
  have g6 : decide (c ≤ 5000) = true := decide_eq_true h6
  go_enter Try.func39, Try.ntmps39
  go_wp2_with fail
  (try simp only [Exit.inBlock, Exit.then])
  refine bodyPost_ret (by simp [results, Try.results39, go_sem]; try rfl) rfl ?_
  exact ⟨rfl, by first | exact ((Only.refl [] _).alloc _) | exact ((Only.refl [] _).alloc _).drew⟩

section
variable {w : World} {lp kp : Option Addr} {lc kc : Nat} {P : List (Ab × Value)} {K : List Dec}

set_option maxRecDepth 100000 in
set_option maxHeartbeats 1000000 in
theorem ref13_Len (h : RefB w (.slice lp P.length lc) (.slice kp K.length kc) P K) (hs : spansA (P.map (·.1)) ≤ 100000) (hP : P.length ≤ 100000) (ms wt ch nw cm : Int) :
    Calls Try.prog 42 #[.agg #[.int .i64 ms, .int .i64 wt, .int .i64 ch, .int .i64 nw, .int .i64 cm, .slice lp P.length lc, .slice kp K.length kc]] w fun e w' => e = .returned (.int .i64 (spansA (P.map (·.1)))) ∧ Only [] w w' := by
  have H := Lib.hid h
  have o1 := (Only.refl [] w).alloc (.cells #[.int .i64 ms, .int .i64 wt, .int .i64 ch, .int .i64 nw, .int .i64 cm, .slice lp P.length lc, .slice kp K.length kc] 88)
  have B := heap_alloc_new w (.cells #[.int .i64 ms, .int .i64 wt, .int .i64 ch, .int .i64 nw, .int .i64 cm, .slice lp P.length lc, .slice kp K.length kc] 88)
  have O1 := Lib.hid o1
  have HB := Lib.hid B
  have hPI : (P.length : Int) ≤ 100000 := by omega
  have Hs := Lib.hid hs
  clear h o1 B hs hP
  go_enter Try.func42, Try.ntmps42
  go_wp2_with fail
  generalize w.alloc (.cells #[.int .i64 ms, .int .i64 wt, .int .i64 ch, .int .i64 nw, .int .i64 cm, .slice lp P.length lc, .slice kp K.length kc] 88) = w1 at *
  generalize w.heap.size = b at *
  have r5 : w1.cell? ⟨b, 5, none⟩ = some (.slice lp P.length lc) := by rw [cell_of_blk HB.out]; rfl
  have hb := lt_of_blk HB.out
  go_loopw [3, 4] (fun nv iv wr => ∃ i n : Nat, iv = .int .i64 i ∧ i ≤ P.length ∧ nv = .int .i64 n ∧ n = spansA ((P.map (·.1)).take i) ∧ wr = w1) (fun _ iv _ => P.length - (intOf iv).toNat)
  case atStart => exact ⟨0, 0, rfl, by omega, rfl, rfl, rfl⟩
  case round =>
    obtain ⟨i, n, rfl, hi, rfl, hn, rfl⟩ := hrel
    by_cases hil : i < P.length
    · have g1 : decide (i < P.length) = true := decide_eq_true hil
      obtain ⟨p, hp⟩ : ∃ p, P[i]? = some p := ⟨_, List.getElem?_eq_getElem hil⟩
      have HR := H.out.only O1.out (by simp)
      obtain ⟨g, off, hg, hgl, hx⟩ := row_cells (j := i) HR.l (by rw [List.getElem?_map, hp]; rfl)
      obtain ⟨sp, sc, hsv⟩ := (HR.s p (List.mem_of_getElem? hp)).form
      rw [List.length_map] at hsv
      have x4 := hx 4 _ rfl
      rw [hsv] at x4
      subst hg
      have hn2 : n + p.1.sps.length = spansA ((P.map (·.1)).take (i + 1)) := by
        rw [List.take_add_one, spans_app, List.getElem?_map, hp, hn]
        simp [spansA]
      have hle : n + p.1.sps.length ≤ 100000 := by
        rw [hn2]
        exact Nat.le_trans (spans_le _ _) Hs.out
      have hleI : (n : Int) + (p.1.sps.length : Int) ≤ 100000 := by omega
      have Hn2 := Lib.hid hn2
      clear HR hx hsv hn hn2 hp
      go_wp2_with fail
      go_roundw
      case rel => exact ⟨i + 1, n + p.1.sps.length, by go_num, by omega, by go_num, Hn2.out, trivial⟩
      case measure => simp [intOf]; omega
    · have g1 : decide (i < P.length) = false := decide_eq_false hil
      have hn2 : n = spansA (P.map (·.1)) := by
        rw [hn, show i = (P.map (·.1)).length by rw [List.length_map]; omega, List.take_length]
      have Hn2 := Lib.hid hn2
      clear hn hn2
      go_wp2_with fail
      go_ret
      exact ⟨by rw [Hn2.out]; rfl, O1.out⟩

/-- The place of the first that is due. -/
def firstI (P : List (Ab × Value)) : Int := if P = [] then -1 else 0

set_option maxRecDepth 100000 in
set_option maxHeartbeats 1000000 in
theorem ref13_first (h : RefB w (.slice lp P.length lc) (.slice kp K.length kc) P K) (hs : (P.map (fun p => p.1.due)).Pairwise (· ≤ ·)) (hP : P.length ≤ 100000) (ms wt ch nw cm : Int) :
    Calls Try.prog 60 #[.agg #[.int .i64 ms, .int .i64 wt, .int .i64 ch, .int .i64 nw, .int .i64 cm, .slice lp P.length lc, .slice kp K.length kc]] w fun e w' => e = .returned (.int .i64 (firstI P)) ∧ Only [] w w' := by
  have H := Lib.hid h
  have o1 := (Only.refl [] w).alloc (.cells #[.int .i64 ms, .int .i64 wt, .int .i64 ch, .int .i64 nw, .int .i64 cm, .slice lp P.length lc, .slice kp K.length kc] 88)
  have B := heap_alloc_new w (.cells #[.int .i64 ms, .int .i64 wt, .int .i64 ch, .int .i64 nw, .int .i64 cm, .slice lp P.length lc, .slice kp K.length kc] 88)
  have O1 := Lib.hid o1
  have HB := Lib.hid B
  have hPI : (P.length : Int) ≤ 100000 := by omega
  have Hs := Lib.hid hs
  clear h o1 B hs hP
  go_enter Try.func60, Try.ntmps60
  go_wp2_with fail
  generalize w.alloc (.cells #[.int .i64 ms, .int .i64 wt, .int .i64 ch, .int .i64 nw, .int .i64 cm, .slice lp P.length lc, .slice kp K.length kc] 88) = w1 at *
  generalize w.heap.size = b at *
  have r5 : w1.cell? ⟨b, 5, none⟩ = some (.slice lp P.length lc) := by rw [cell_of_blk HB.out]; rfl
  have hb := lt_of_blk HB.out
  go_loopw [3, 4] (fun kv iv wr => ∃ i d : Nat, iv = .int .i64 i ∧ i ≤ P.length ∧ kv = .int .i64 (if i = 0 then -1 else 0) ∧ wr = w1.drewN d) (fun _ iv _ => P.length - (intOf iv).toNat)
  case atStart => exact ⟨0, 0, rfl, by omega, rfl, rfl⟩
  case round =>
    obtain ⟨i, d, rfl, hi, rfl, rfl⟩ := hrel
    by_cases hil : i < P.length
    · have g1 : decide (i < P.length) = true := decide_eq_true hil
      obtain ⟨p, hp⟩ : ∃ p, P[i]? = some p := ⟨_, List.getElem?_eq_getElem hil⟩
      obtain ⟨q, hq⟩ : ∃ q, P[0]? = some q := ⟨_, List.getElem?_eq_getElem (by omega)⟩
      have HR := H.out.only O1.out (by simp)
      obtain ⟨g, off, hg, hgl, hx⟩ := row_cells (j := i) HR.l (by rw [List.getElem?_map, hp]; rfl)
      obtain ⟨g', off', hg', _, hy⟩ := row_cells (j := 0) HR.l (by rw [List.getElem?_map, hq]; rfl)
      subst hg
      cases hg'
      have x0 := hx 0 _ rfl
      have y0 := hy 0 _ rfl
      simp only [Nat.zero_mul, Nat.add_zero] at x0 y0
      by_cases hi0 : i = 0
      · subst hi0
        simp only [if_true]
        clear HR hx hy hp hq x0
        go_wp2_with fail
        go_quiet (fail)
        go_wp2_with fail
        go_roundw
        case rel => exact ⟨1, d + nq, by go_num, by omega, rfl, rfl⟩
        case measure => simp [intOf]; omega
      · rw [if_neg hi0]
        have hle : q.1.due ≤ p.1.due := by
          have h1 := List.pairwise_iff_getElem.1 Hs.out 0 i (by rw [List.length_map]; omega) (by rw [List.length_map]; omega) (by omega)
          rw [List.getElem_map, List.getElem_map] at h1
          rw [(List.getElem?_eq_some_iff.1 hp).2, (List.getElem?_eq_some_iff.1 hq).2] at h1
          exact h1
        have g2 : decide (p.1.due < q.1.due) = false := decide_eq_false (by omega)
        have h0l : 0 < P.length := by omega
        clear HR hx hy hp hq hle
        go_wp2_with fail
        go_quiet (fail)
        go_wp2_with fail
        go_roundw
        case rel => exact ⟨i + 1, d + nq, by go_num, by omega, by rw [if_neg (by omega)], rfl⟩
        case measure => simp [intOf]; omega
    · have g1 : decide (i < P.length) = false := decide_eq_false hil
      have hfi : (if i = 0 then (-1 : Int) else 0) = firstI P := by
        unfold firstI
        by_cases hP : P = []
        · subst hP
          simp only [List.length_nil] at hi
          rw [if_pos (by omega), if_pos rfl]
        · have := List.length_pos_iff.2 hP
          rw [if_neg (by omega), if_neg hP]
      rw [hfi]
      clear hfi
      go_wp2_with fail
      go_ret
      exact ⟨rfl, O1.out.drewN _⟩

set_option maxRecDepth 100000 in
set_option maxHeartbeats 1000000 in
theorem ref13_Next (h : RefB w (.slice lp P.length lc) (.slice kp K.length kc) P K) (hs : (P.map (fun p => p.1.due)).Pairwise (· ≤ ·)) (hP : P.length ≤ 100000) (ms wt ch nw cm : Int) :
    Calls Try.prog 41 #[.agg #[.int .i64 ms, .int .i64 wt, .int .i64 ch, .int .i64 nw, .int .i64 cm, .slice lp P.length lc, .slice kp K.length kc]] w fun e w' => e = .returned (.tuple #[.int .i64 (nextA (P.map (·.1))).1, .bool (nextA (P.map (·.1))).2]) ∧ Only [] w w' := by
  have H := Lib.hid h
  have o1 := (Only.refl [] w).alloc (.cells #[.int .i64 ms, .int .i64 wt, .int .i64 ch, .int .i64 nw, .int .i64 cm, .slice lp P.length lc, .slice kp K.length kc] 88)
  have B := heap_alloc_new w (.cells #[.int .i64 ms, .int .i64 wt, .int .i64 ch, .int .i64 nw, .int .i64 cm, .slice lp P.length lc, .slice kp K.length kc] 88)
  have O1 := Lib.hid o1
  have HB := Lib.hid B
  have C := Lib.hid (ref13_first (h.only o1 (by simp)) hs hP ms wt ch nw cm)
  clear h o1 B hs
  go_enter Try.func41, Try.ntmps41
  go_wp2_with fail
  refine C.out.mono ?_
  rintro e w2 ⟨rfl, o2⟩
  have O2 := Lib.hid o2
  have HB2 := Lib.hid (o2.blk HB.out (by simp))
  have HR2 := Lib.hid ((H.out.only O1.out (by simp)).only o2 (by simp))
  have O12 := Lib.hid (O1.out.trans o2)
  generalize w.heap.size = b at *
  clear o2 HB C O1 O2 H
  cases hPc : P with
  | nil =>
    subst hPc
    simp only [firstI, if_true]
    go_wp2_with fail
    go_ret2
    exact ⟨rfl, O12.out⟩
  | cons q P' =>
    have hne : P ≠ [] := by rw [hPc]; simp
    have hl : 0 < P.length := List.length_pos_iff.2 hne
    obtain ⟨g, off, hg, hgl, hx⟩ := row_cells (j := 0) HR2.out.l (by rw [List.getElem?_map, show P[0]? = some q by rw [hPc]; rfl]; rfl)
    have x0 := hx 0 _ rfl
    simp only [Nat.zero_mul, Nat.add_zero] at x0
    have r5 : w2.cell? ⟨b, 5, none⟩ = some (.slice lp P.length lc) := by rw [cell_of_blk HB2.out]; rfl
    have hb := lt_of_blk HB2.out
    have hPI : (P.length : Int) ≤ 100000 := by omega
    have hf : firstI P = 0 := if_neg hne
    rw [← hPc]
    rw [hf]
    have hnx := Lib.hid (show nextA (P.map (·.1)) = (q.1.due, true) by rw [hPc]; rfl)
    subst hg
    clear hx hPc hne hf HR2
    simp only
    go_wp2_with fail
    go_ret2
    exact ⟨by rw [hnx.out]; rfl, O12.out⟩

set_option maxRecDepth 100000 in
set_option maxHeartbeats 1000000 in
theorem ref13_Kept (h : RefB w (.slice lp P.length lc) (.slice kp K.length kc) P K) (hK : K.length ≤ 5000) (ms wt ch nw cm hi lo : Int) :
    Calls Try.prog 59 #[.agg #[.int .i64 ms, .int .i64 wt, .int .i64 ch, .int .i64 nw, .int .i64 cm, .slice lp P.length lc, .slice kp K.length kc], .int .u64 hi, .int .u64 lo] w fun e w' => e = .returned (.tuple #[.bool (knownK K (hi, lo)).1, .bool (knownK K (hi, lo)).2]) ∧ Only [] w w' := by
  have H := Lib.hid h
  have o1 := (Only.refl [] w).alloc (.cells #[.int .i64 ms, .int .i64 wt, .int .i64 ch, .int .i64 nw, .int .i64 cm, .slice lp P.length lc, .slice kp K.length kc] 88)
  have B := heap_alloc_new w (.cells #[.int .i64 ms, .int .i64 wt, .int .i64 ch, .int .i64 nw, .int .i64 cm, .slice lp P.length lc, .slice kp K.length kc] 88)
  have O1 := Lib.hid o1
  have HB := Lib.hid B
  have hKI : (K.length : Int) ≤ 5000 := by omega
  clear h o1 B hK
  go_enter Try.func59, Try.ntmps59
  go_wp2_with fail
  generalize w.alloc (.cells #[.int .i64 ms, .int .i64 wt, .int .i64 ch, .int .i64 nw, .int .i64 cm, .slice lp P.length lc, .slice kp K.length kc] 88) = w1 at *
  generalize w.heap.size = b at *
  have r6 : w1.cell? ⟨b, 6, none⟩ = some (.slice kp K.length kc) := by rw [cell_of_blk HB.out]; rfl
  have hb := lt_of_blk HB.out
  go_loopw [8] (fun iv wr => ∃ i : Nat, iv = .int .i64 i ∧ i ≤ K.length ∧ asc K (hi, lo) = asc (K.drop i) (hi, lo) ∧ wr = w1) (fun iv _ => K.length - (intOf iv).toNat)
  case atStart => exact ⟨0, rfl, by omega, rfl, rfl⟩
  case round =>
    obtain ⟨i, rfl, hi', has, rfl⟩ := hrel
    by_cases hil : i < K.length
    · have g1 : decide (i < K.length) = true := decide_eq_true hil
      obtain ⟨p, hp⟩ : ∃ p, K[i]? = some p := ⟨_, List.getElem?_eq_getElem hil⟩
      have hdr : K.drop i = p :: K.drop (i + 1) := by
        rw [List.drop_eq_getElem_cons hil, (List.getElem?_eq_some_iff.1 hp).2]
      have HR := H.out.only O1.out (by simp)
      obtain ⟨g, off, hg, hgl, hx⟩ := row_cells (j := i) HR.k (by rw [List.getElem?_map, hp]; rfl)
      have x0 := hx 0 _ rfl
      have x1 := hx 1 _ rfl
      have x2 := hx 2 _ rfl
      simp only [Nat.add_zero] at x0
      subst hg
      rw [hdr, asc] at has
      clear HR hx hp hdr
      by_cases heq : p.1 = (hi, lo)
      · rw [if_pos heq] at has
        have e1 : p.1.1 = hi := by rw [heq]
        have e2 : p.1.2 = lo := by rw [heq]
        rw [e1] at x0
        rw [e2] at x1
        have hkn := Lib.hid (show knownK K (hi, lo) = (p.2, true) by unfold knownK; rw [has])
        clear has heq e1 e2
        go_wp2_with fail
        go_ret2
        exact ⟨by rw [hkn.out]; rfl, O1.out⟩
      · rw [if_neg heq] at has
        have Has := Lib.hid has
        have hcs : ¬ p.1.1 = hi ∨ (p.1.1 = hi ∧ ¬ p.1.2 = lo) := by
          by_cases h1 : p.1.1 = hi
          · exact .inr ⟨h1, fun h2 => heq (Prod.ext h1 h2)⟩
          · exact .inl h1
        clear has heq
        rcases hcs with hc1 | ⟨hc1, hc2⟩
        · have c1 : decide (p.1.1 = hi) = false := decide_eq_false hc1
          have c2 : (p.1.1 == hi) = false := by simp [hc1]
          go_wp2_with fail
          go_roundw
          case rel => exact ⟨i + 1, by go_num, by omega, Has.out, trivial⟩
          case measure => simp [intOf]; omega
        · rw [hc1] at x0
          have c1 : decide (p.1.2 = lo) = false := decide_eq_false hc2
          have c2 : (p.1.2 == lo) = false := by simp [hc2]
          clear hc1
          go_wp2_with fail
          go_roundw
          case rel => exact ⟨i + 1, by go_num, by omega, Has.out, trivial⟩
          case measure => simp [intOf]; omega
    · have g1 : decide (i < K.length) = false := decide_eq_false hil
      have h0 : K.drop i = [] := List.drop_eq_nil_of_le (by omega)
      rw [h0] at has
      have hkn := Lib.hid (show knownK K (hi, lo) = (false, false) by unfold knownK; rw [has]; rfl)
      clear has h0
      go_wp2_with fail
      go_ret2
      exact ⟨by rw [hkn.out]; rfl, O1.out⟩
end

end Go.Proofs.Ytcppnmogdmpdbaa
