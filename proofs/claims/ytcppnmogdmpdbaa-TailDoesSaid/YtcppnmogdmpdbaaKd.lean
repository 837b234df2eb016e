/- Offer of package tail: a span of a trace that waits, or of a new one. -/
import Derived.Test.YtcppnmogdmpdbaaKc
set_option linter.unusedVariables false
set_option linter.unusedSimpArgs false
namespace Go.Proofs.Ytcppnmogdmpdbaa
open Go.RowKit Go.Mk Go.Hp
attribute [-go_sem] Builtin.append_

theorem info_span : ∃ i z, Try.prog.info? 65 = some i ∧ i.zero = some z ∧ i.size = 10 ∧ i.bytes ≤ 1000 ∧ z.cells.size = 10 := by
  have h : (Try.prog.info? 65).map (fun i => (i.zero.map (fun z => z.cells.size), i.size, decide (i.bytes ≤ 1000))) = some (some 10, 10, true) := by kernel_rfl
  cases hi : Try.prog.info? 65 with
  | none => rw [hi] at h; cases h
  | some i =>
    rw [hi] at h
    simp only [Option.map_some, Option.some.injEq, Prod.mk.injEq, decide_eq_true_eq] at h
    obtain ⟨h1, h2, h3⟩ := h
    cases hz : i.zero with
    | none => rw [hz] at h1; cases h1
    | some z => rw [hz] at h1; exact ⟨i, z, rfl, hz, h2, h3, by simpa using h1⟩

/-- The trace is one of those that wait, or a new one. -/
def Chose (Q : List Wr) (came : Int) (Q1 : List Wr) (came1 n wait : Int) (t : Tr) (i : Nat) (p : Wr) : Prop :=
  (Q1 = Q ∧ came1 = came ∧ p.tr = t) ∨ (t ∉ Q.map (·.tr) ∧ came1 = came + 1 ∧ Q1 = Q ++ [p] ∧ p.tr = t ∧ p.no = came ∧ p.due = n + wait ∧ p.sps = [])

theorem spans_ge : ∀ {Q : List Wr} {i : Nat} {p : Wr}, Q[i]? = some p → p.sps.length ≤ spansOf Q
  | q :: Q, 0, p, h => by cases h; simp [spansOf]
  | q :: Q, i + 1, p, h => by
    rw [List.getElem?_cons_succ] at h
    have := spans_ge h
    simp only [spansOf, List.map_cons, List.sum_cons] at *
    omega
theorem spans_len : ∀ {Q : List Wr}, (∀ q ∈ Q, q.sps ≠ []) → Q.length ≤ spansOf Q
  | [], _ => by simp
  | q :: Q, h => by
    have h1 := spans_len (Q := Q) (fun x hx => h x (by simp [hx]))
    have h2 : 0 < q.sps.length := List.length_pos_iff.2 (h q (by simp))
    simp only [spansOf, List.map_cons, List.sum_cons, List.length_cons] at *
    omega
theorem set_map_key {α κ : Type} [DecidableEq κ] (key : α → κ) (g : α → α) : ∀ {L : List α} {i : Nat} {p : α}, (L.map key).Nodup → L[i]? = some p → L.set i (g p) = L.map (fun q => if key q = key p then g q else q)
  | q :: L, 0, p, hn, h => by
    cases h
    simp only [List.map_cons, List.nodup_cons] at hn
    rw [List.set_cons_zero, List.map_cons, if_pos rfl]
    congr 1
    refine (List.map_id L).symm.trans (List.map_congr_left (fun x hx => ?_))
    rw [if_neg (fun he => hn.1 (by rw [← he]; exact List.mem_map_of_mem hx))]
    rfl
  | q :: L, i + 1, p, hn, h => by
    simp only [List.map_cons, List.nodup_cons] at hn
    rw [List.getElem?_cons_succ] at h
    rw [List.set_cons_succ, List.map_cons, if_neg (fun he => hn.1 (by rw [he]; exact List.mem_map_of_mem (List.mem_of_getElem? h))), set_map_key key g hn.2 h]
theorem map_set_same {α β : Type} (f : α → β) : ∀ {L : List α} {i : Nat} {p q : α}, L[i]? = some p → f q = f p → (L.set i q).map f = L.map f
  | x :: L, 0, p, q, h, he => by cases h; simp [he]
  | x :: L, i + 1, p, q, h, he => by
    rw [List.getElem?_cons_succ] at h
    rw [List.set_cons_succ, List.map_cons, List.map_cons, map_set_same f h he]
theorem spans_set {Q : List Wr} {i : Nat} {p q : Wr} (h : Q[i]? = some p) (hq : q.sps.length = p.sps.length + 1) : spansOf (Q.set i q) = spansOf Q + 1 := by
  induction Q generalizing i with
  | nil => cases h
  | cons x Q ih =>
    cases i with
    | zero => cases h; simp [spansOf, hq]; omega
    | succ i =>
      rw [List.getElem?_cons_succ] at h
      have := ih h
      simp only [spansOf, List.set_cons_succ, List.map_cons, List.sum_cons] at *
      omega
theorem spans_append (Q : List Wr) (q : Wr) : spansOf (Q ++ [q]) = spansOf Q + q.sps.length := by simp [spansOf]
theorem insT_last {t : Tm} : ∀ {S : List Tm}, (∀ a ∈ S, ltT a t = true) → insT t S = S ++ [t]
  | [], _ => rfl
  | a :: S, h => by
    show (if ltT a t then a :: insT t S else t :: a :: S) = _
    rw [if_pos (h a (by simp)), insT_last (fun x hx => h x (by simp [hx]))]
    rfl

/-- What is told of a trace that waits: its number, when it is due, which it is, its spans. -/
structure Ab where
  no : Int
  due : Int
  tr : Tr
  sps : List Sp
def Wr.ab (q : Wr) : Ab := ⟨q.no, q.due, q.tr, q.sps⟩
def Ab.more (s : Sp) (a : Ab) : Ab := ⟨a.no, a.due, a.tr, a.sps ++ [s]⟩

/-- A span has come to those that wait. -/
def takeA (A : List Ab) (came due : Int) (s : Sp) : List Ab := if s.tr ∈ A.map (·.tr) then A.map (fun a => if a.tr = s.tr then a.more s else a) else A ++ [⟨came, due, s.tr, [s]⟩]
def cameA (A : List Ab) (came : Int) (t : Tr) : Int := if t ∈ A.map (·.tr) then came else came + 1

theorem ab_tr (Q : List Wr) : (Q.map Wr.ab).map (·.tr) = Q.map (·.tr) := by rw [List.map_map]; rfl

theorem chose_take {Q Q1 : List Wr} {came came1 n wait : Int} {i : Nat} {p q : Wr} {s : Sp} (h : Chose Q came Q1 came1 n wait s.tr i p) (hi : Q1[i]? = some p) (hn : (Q.map (·.tr)).Nodup) (hq : q.ab = p.ab.more s) :
    (Q1.set i q).map Wr.ab = takeA (Q.map Wr.ab) came (n + wait) s ∧ came1 = cameA (Q.map Wr.ab) came s.tr := by
  have hset : (Q1.set i q).map Wr.ab = (Q1.map Wr.ab).set i (p.ab.more s) := by rw [List.map_set, hq]
  have hia : (Q1.map Wr.ab)[i]? = some p.ab := by rw [List.getElem?_map, hi]; rfl
  rcases h with ⟨rfl, rfl, ht⟩ | ⟨h1, rfl, rfl, h4, h5, h6, h7⟩
  · have hm : s.tr ∈ (Q1.map Wr.ab).map (·.tr) := by rw [ab_tr, ← ht]; exact List.mem_map_of_mem (List.mem_of_getElem? hi)
    unfold takeA cameA
    rw [if_pos hm, if_pos hm, hset, set_map_key (fun a : Ab => a.tr) (Ab.more s) (by rw [ab_tr]; exact hn) hia]
    refine ⟨?_, rfl⟩
    have : p.ab.tr = s.tr := ht
    rw [this]
  · have hm : s.tr ∉ (Q.map Wr.ab).map (·.tr) := by rw [ab_tr]; exact h1
    unfold takeA cameA
    rw [if_neg hm, if_neg hm, hset, List.map_append]
    have hiq : i = Q.length := by
      by_cases hlt : i < Q.length
      · rw [List.getElem?_append_left hlt] at hi
        exact absurd (by rw [← h4]; exact List.mem_map_of_mem (List.mem_of_getElem? hi)) h1
      · have := (List.getElem?_eq_some_iff.1 hi).1
        rw [List.length_append, List.length_singleton] at this
        omega
    subst hiq
    have hl : (Q.map Wr.ab).length = Q.length := by simp
    refine ⟨?_, rfl⟩
    rw [List.set_append_right _ _ (by rw [hl]; exact Nat.le_refl _), hl, Nat.sub_self]
    simp only [List.map_cons, List.map_nil, List.set_cons_zero]
    unfold Ab.more Wr.ab
    simp only [h4, h5, h6, h7, List.nil_append]

/-- A row has one span more. -/
theorem row_more {w W w9 : World} {q : Wr} (h : RowOk w q) (oW : Only [] w W) {g off cap' : Nat} {sp : Sp} (hrm : RowMem w9 65 10 (q.sps.map Sp.cells ++ [sp.cells]) g off cap') (o9 : Only (blockOf q.sv) W w9) (hg : g ∈ blockOf q.sv ∨ W.heap.size ≤ g) :
    RowOk (w9.setCell ⟨q.wb, 2, none⟩ (.slice (some ⟨g, off, none⟩) (q.sps.length + 1) cap')) ⟨q.no, q.due, q.tr, q.sps ++ [sp], q.wb, .slice (some ⟨g, off, none⟩) (q.sps.length + 1) cap'⟩ ∧
      Only q.bl W (w9.setCell ⟨q.wb, 2, none⟩ (.slice (some ⟨g, off, none⟩) (q.sps.length + 1) cap')) ∧ ∀ x ∈ (⟨q.no, q.due, q.tr, q.sps ++ [sp], q.wb, .slice (some ⟨g, off, none⟩) (q.sps.length + 1) cap'⟩ : Wr).bl, x ∈ q.bl ∨ W.heap.size ≤ x := by
  have hwl : q.wb < W.heap.size := oW.lt (lt_of_blk h.blk)
  have hgw : g ≠ q.wb := by
    rcases hg with h1 | h1
    · rintro rfl; exact h.ap h1
    · omega
  have o10 := only_setTp w9 q.wb 2 (.slice (some ⟨g, off, none⟩) (q.sps.length + 1) cap')
  refine ⟨⟨setCell_blk (i := 2) (o9.blk (oW.blk h.blk (by simp)) h.ap), ?_, ?_⟩, ?_, ?_⟩
  · have h1 := SliceIs.row (hrm.only o10 (by simpa using hgw))
    rw [List.length_append, List.length_map, List.length_singleton] at h1
    simp only [List.map_append, List.map_cons, List.map_nil]
    exact h1
  · simpa [blockOf] using Ne.symm hgw
  · exact (o9.mono (fun x hx _ => List.mem_cons_of_mem _ hx)).trans (o10.mono (fun x hx _ => by rw [List.mem_singleton] at hx; rw [hx]; simp [Wr.bl]))
  · intro x hx
    simp only [Wr.bl, blockOf, List.mem_cons, List.not_mem_nil, or_false] at hx
    rcases hx with rfl | rfl
    · exact .inl (by simp [Wr.bl])
    · rcases hg with h1 | h1
      · exact .inl (List.mem_cons_of_mem _ h1)
      · exact .inr h1

/-- The numbers behind a span more. -/
theorem nums_more {most wait cache now came n came1 : Int} {Q Q1 : List Wr} {i : Nat} {p q : Wr} {s : Sp} (hN : NumsOk most wait cache now came Q) (hC : Chose Q came Q1 came1 n wait s.tr i p) (hi : Q1[i]? = some p) (hq : q.ab = p.ab.more s) (h1 : now ≤ n) (h2 : n ≤ 1099511627776) (hfull : (spansOf Q : Int) < most) (hc : came < 1000000) :
    NumsOk most wait cache n came1 (Q1.set i q) ∧ spansOf (Q1.set i q) = spansOf Q1 + 1 ∧ (Q1.set i q).map tmOf = Q1.map tmOf ∧ (Q1.set i q).map (fun q => (q.tr, q.no)) = Q1.map (fun q => (q.tr, q.no)) := by
  obtain ⟨e1, e2, e3, e4⟩ : q.no = p.no ∧ q.due = p.due ∧ q.tr = p.tr ∧ q.sps = p.sps ++ [s] := by
    simp only [Wr.ab, Ab.more, Ab.mk.injEq] at hq
    exact hq
  have hlen : q.sps.length = p.sps.length + 1 := by rw [e4, List.length_append, List.length_singleton]
  have hQ1 : spansOf Q1 = spansOf Q := by
    rcases hC with ⟨rfl, _, _⟩ | ⟨_, _, rfl, _, _, _, h7⟩
    · rfl
    · rw [spans_append, h7]; rfl
  have hno : (Q1.map (·.no)).Nodup := by
    rcases hC with ⟨rfl, _, _⟩ | ⟨_, _, rfl, _, h5, _, _⟩
    · exact hN.nos
    · rw [List.map_append, List.map_cons, List.map_nil, List.nodup_append]
      refine ⟨hN.nos, by simp, fun a ha c hc2 he => ?_⟩
      rw [List.mem_singleton] at hc2
      obtain ⟨u, hu, hu2⟩ := List.mem_map.1 ha
      have := (hN.lt u hu).2
      omega
  have htr : (Q1.map (·.tr)).Nodup := by
    rcases hC with ⟨rfl, _, _⟩ | ⟨h3, _, rfl, h4, _, _, _⟩
    · exact hN.trs
    · rw [List.map_append, List.map_cons, List.map_nil, List.nodup_append]
      refine ⟨hN.trs, by simp, fun a ha c hc2 he => ?_⟩
      rw [List.mem_singleton] at hc2
      exact h3 (by rw [← h4, ← hc2, ← he]; exact ha)
  have hlt : ∀ u ∈ Q1, 0 ≤ u.no ∧ u.no < came1 := by
    rcases hC with ⟨rfl, rfl, _⟩ | ⟨_, rfl, rfl, _, h5, _, _⟩
    · exact hN.lt
    · intro u hu
      rcases List.mem_append.1 hu with hu | hu
      · have := hN.lt u hu; omega
      · rw [List.mem_singleton.1 hu, h5]; have := hN.came0; omega
  have hdue : ∀ u ∈ Q1, u.due ≤ n + wait := by
    rcases hC with ⟨rfl, rfl, _⟩ | ⟨_, rfl, rfl, _, _, h6, _⟩
    · intro u hu; have := hN.due u hu; omega
    · intro u hu
      rcases List.mem_append.1 hu with hu | hu
      · have := hN.due u hu; omega
      · rw [List.mem_singleton.1 hu, h6]; omega
  have hne : ∀ (j : Nat) (u : Wr), j ≠ i → Q1[j]? = some u → u.sps ≠ [] := by
    rcases hC with ⟨rfl, rfl, _⟩ | ⟨h3, rfl, rfl, h4, _, _, _⟩
    · exact fun j u _ hu => hN.ne u (List.mem_of_getElem? hu)
    · intro j u hj hu
      by_cases hjl : j < Q.length
      · rw [List.getElem?_append_left hjl] at hu; exact hN.ne u (List.mem_of_getElem? hu)
      · have h5 := (List.getElem?_eq_some_iff.1 hu).1
        have h6 := (List.getElem?_eq_some_iff.1 hi).1
        rw [List.length_append, List.length_singleton] at h5 h6
        have : i < Q.length := by omega
        rw [List.getElem?_append_left this] at hi
        exact absurd (by rw [← h4]; exact List.mem_map_of_mem (List.mem_of_getElem? hi)) h3
  have hcame : 0 ≤ came1 ∧ came1 ≤ 1000000 := by
    have := hN.came0
    rcases hC with ⟨_, rfl, _⟩ | ⟨_, rfl, _⟩ <;> omega
  have hmem : ∀ u ∈ Q1.set i q, u = q ∨ ∃ (j : Nat), j ≠ i ∧ Q1[j]? = some u := fun u hu => by
    obtain ⟨j, hj⟩ := List.getElem?_of_mem hu
    by_cases hji : i = j
    · subst hji
      rw [List.getElem?_set_self (List.getElem?_eq_some_iff.1 hi).1] at hj
      exact .inl (Option.some.inj hj).symm
    · rw [List.getElem?_set_ne hji] at hj
      exact .inr ⟨j, fun h => hji h.symm, hj⟩
  have hsum := spans_set hi hlen
  have hpm := List.mem_of_getElem? hi
  refine ⟨⟨by rw [map_set_same _ hi e1]; exact hno, by rw [map_set_same _ hi e3]; exact htr, fun u hu => ?_, fun u hu => ?_, fun u hu => ?_, by have := hN.now0; omega, h2, hN.wait0, hN.wait1, hcame.1, hcame.2, hN.most1, hN.cache0, by rw [hsum, hQ1]; omega⟩, hsum, map_set_same _ hi (by unfold tmOf; rw [e1, e2]), map_set_same _ hi (by rw [e1, e3])⟩
  · rcases hmem u hu with rfl | ⟨j, _, hj⟩
    · rw [e1]; exact hlt p hpm
    · exact hlt u (List.mem_of_getElem? hj)
  · rcases hmem u hu with rfl | ⟨j, _, hj⟩
    · rw [e2]; exact hdue p hpm
    · exact hdue u (List.mem_of_getElem? hj)
  · rcases hmem u hu with rfl | ⟨j, hji, hj⟩
    · rw [e4]; simp
    · exact hne j u hji hj

/-- The buffer in the midst of Offer: the trace of the span is one that waits. -/
structure MidO (wx : World) (b : TB) (Fh : List Nat) (ov : Value) (most wait cache now came : Int) (Kn : Tr → Option Bool) (Or : List Tr) (Q : List Wr) (i : Nat) (p : Wr) (bs : Nat) (sp : Sp) : Prop where
  env : ∃ mst msr msk, Env wx b (tArr b ov (spansOf Q) now came most wait cache) Fh most (Q.map tmOf) mst msr msk ov Or Q ∧ MapsSay mst msr msk Q Kn
  ap : Apart b Fh (blockOf ov) Q
  hi : Q[i]? = some p
  b5 : wx.heap[bs]? = some (.cells sp.arr 65 (0, 0))
  ne5 : bs ∉ foot b Fh (blockOf ov) Q
  nos : (Q.map (·.no)).Nodup
  len : p.sps.length ≤ 10000
  sum : spansOf Q ≤ 10000

theorem span_row {w : World} {q : Wr} (h : RowOk w q) : w.cell? ⟨q.wb, 0, none⟩ = some (.int .u64 q.tr.1) ∧ w.cell? ⟨q.wb, 1, none⟩ = some (.int .u64 q.tr.2) ∧ w.cell? ⟨q.wb, 2, none⟩ = some q.sv ∧ ∀ i, w.frozen? ⟨q.wb, i, none⟩ = false := by
  have hb := h.blk
  exact ⟨by rw [cell_of_blk hb]; rfl, by rw [cell_of_blk hb]; rfl, by rw [cell_of_blk hb]; rfl, fun i => frozen_of_blk hb⟩


theorem mapsay_get {mst : List (Ent Tr)} {msr : List (Ent Int)} {msk : List (Ent Tr)} {Q : List Wr} {Kn : Tr → Option Bool} (h : MapsSay mst msr msk Q Kn) (t : Tr) :
    (∃ (i : Nat) (p : Wr), Q[i]? = some p ∧ p.tr = t ∧ getL t mst = some (.int .i64 p.no)) ∨ (t ∉ Q.map (·.tr) ∧ getL t mst = none) := by
  have h1 := h.t t
  cases ha : asc (Q.map fun q => (q.tr, q.no)) t with
  | none =>
    rw [ha] at h1
    refine .inr ⟨?_, by simpa using h1⟩
    have h2 := asc_none.1 ha
    simpa [List.map_map, Function.comp_def] using h2
  | some v =>
    rw [ha] at h1
    obtain ⟨i, hi⟩ := asc_some ha
    rw [List.getElem?_map] at hi
    cases hq : Q[i]? with
    | none => rw [hq] at hi; cases hi
    | some p =>
      rw [hq] at hi
      simp only [Option.map_some, Option.some.injEq, Prod.mk.injEq] at hi
      exact .inl ⟨i, p, hq, hi.1, by rw [h1, ← hi.2]; rfl⟩

theorem mapsay_row {mst : List (Ent Tr)} {msr : List (Ent Int)} {msk : List (Ent Tr)} {Q : List Wr} {Kn : Tr → Option Bool} (h : MapsSay mst msr msk Q Kn) (hn : (Q.map (·.no)).Nodup) {i : Nat} {p : Wr} (hi : Q[i]? = some p) : getL p.no msr = some (.pointer (some ⟨p.wb, 0, none⟩)) := by
  have h1 : asc (Q.map fun q => (q.no, q.wb)) p.no = some p.wb := asc_get (i := i) (by simpa [List.map_map, Function.comp_def] using hn) (by rw [List.getElem?_map, hi]; rfl)
  rw [h.r, h1]; rfl

theorem midO_new {w9 w10 : World} {b : TB} {Fh Fh2 : List Nat} {ov : Value} {most wait cache now came n : Int} {Kn : Tr → Option Bool} {Or : List Tr} {Q : List Wr} {mst mst' msk : List (Ent Tr)} {msr msr' : List (Ent Int)} {t : Tr} {bw bs : Nat} {sp : Sp}
    (hE : Env w9 b (tArr b ov (spansOf Q) n (came + 1) most wait cache) Fh most (Q.map tmOf) mst' msr' msk ov Or Q) (hA : Apart b Fh (blockOf ov) Q) (hN : NumsOk most wait cache now came Q) (hM : MapsSay mst msr msk Q Kn)
    (h8 : ∀ j, getL j mst' = if t = j then some (.int .i64 came) else getL j mst) (h9 : ∀ j, getL j msr' = if came = j then some (.pointer (some ⟨bw, 0, none⟩)) else getL j msr)
    (hbw : w9.heap[bw]? = some (.cells #[.int .u64 t.1, .int .u64 t.2, .slice none 0 0] 119 (0, 0))) (hbs : w9.heap[bs]? = some (.cells sp.arr 65 (0, 0))) (hbwn : bw ∉ foot b Fh (blockOf ov) Q) (hbsn : bs ∉ foot b Fh (blockOf ov) Q) (hne : bs ≠ bw)
    (h10 : HeapObj w10 b.hp Fh2 most (insT (n + wait, came) (Q.map tmOf))) (o10 : Only Fh w9 w10) (hF : ∀ x ∈ Fh2, x ∈ Fh ∨ w9.heap.size ≤ x) (hnew : t ∉ Q.map (·.tr)) (hn : now ≤ n) :
    MidO w10 b Fh2 ov most wait cache n (came + 1) Kn Or (Q ++ [⟨came, n + wait, t, [], bw, .slice none 0 0⟩]) Q.length ⟨came, n + wait, t, [], bw, .slice none 0 0⟩ bs sp := by
  obtain ⟨hE2, hA2⟩ := hE.heapTo hA h10 o10 hF
  have hbwl := lt_of_blk hbw
  have hbsl := lt_of_blk hbs
  have nF : ∀ x, x < w9.heap.size → x ∉ foot b Fh (blockOf ov) Q → x ∉ foot b Fh2 (blockOf ov) Q := fun x hx hn hm => by
    rcases mem_foot.1 hm with h | h | h | h
    · exact hn (mem_foot.2 (.inl h))
    · rcases hF x h with h | h
      · exact hn (mem_foot.2 (.inr (.inl h)))
      · omega
    · exact hn (mem_foot.2 (.inr (.inr (.inl h))))
    · exact hn (mem_foot.2 (.inr (.inr (.inr h))))
  have hFn : ∀ x, x ∉ foot b Fh (blockOf ov) Q → x ∉ Fh := fun x hx hm => hx (mem_foot.2 (.inr (.inl hm)))
  have hrow : RowOk w10 ⟨came, n + wait, t, [], bw, .slice none 0 0⟩ := ⟨o10.blk hbw (hFn _ hbwn), .nil, by simp [blockOf]⟩
  obtain ⟨hE3, hA3⟩ := hE2.addRow hA2 hrow (fun x hx => by
    simp only [Wr.bl, blockOf, List.mem_cons, List.not_mem_nil, or_false] at hx
    rw [hx]
    exact nF bw hbwl hbwn)
  have hins : insT (n + wait, came) (Q.map tmOf) = (Q ++ [(⟨came, n + wait, t, [], bw, .slice none 0 0⟩ : Wr)]).map tmOf := by
    rw [insT_last, List.map_append]
    · rfl
    · intro a ha
      obtain ⟨q, hq, rfl⟩ := List.mem_map.1 ha
      have h1 := hN.due q hq
      have h2 := (hN.lt q hq).2
      unfold ltT tmOf
      exact decide_eq_true (by simp only; omega)
  have hnl : came ∉ Q.map (·.no) := fun hm => by
    obtain ⟨q, hq, he⟩ := List.mem_map.1 hm
    have := (hN.lt q hq).2
    omega
  have hsp : spansOf (Q ++ [(⟨came, n + wait, t, [], bw, .slice none 0 0⟩ : Wr)]) = spansOf Q := by rw [spans_append]; rfl
  refine ⟨⟨mst', msr', msk, ?_, ⟨fun j => ?_, fun j => ?_, hM.k⟩⟩, hA3, by simp, o10.blk hbs (hFn _ hbsn), fun hm => ?_, ?_, by simp, ?_⟩
  · rw [hsp, ← hins]; exact hE3
  · rw [h8 j, List.map_append, List.map_cons, List.map_nil, asc_new (by simpa [List.map_map, Function.comp_def] using hnew), hM.t j]
    by_cases he : t = j
    · rw [if_pos he, if_pos he]; rfl
    · rw [if_neg he, if_neg he]
  · rw [h9 j, List.map_append, List.map_cons, List.map_nil, asc_new (by simpa [List.map_map, Function.comp_def] using hnl), hM.r j]
    by_cases he : came = j
    · rw [if_pos he, if_pos he]; rfl
    · rw [if_neg he, if_neg he]
  · rcases mem_foot.1 hm with h | h | h | ⟨q, hq, h⟩
    · exact nF bs hbsl hbsn (mem_foot.2 (.inl h))
    · exact nF bs hbsl hbsn (mem_foot.2 (.inr (.inl h)))
    · exact nF bs hbsl hbsn (mem_foot.2 (.inr (.inr (.inl h))))
    · rcases List.mem_append.1 hq with hq | hq
      · exact nF bs hbsl hbsn (mem_foot.2 (.inr (.inr (.inr ⟨q, hq, h⟩))))
      · rw [List.mem_singleton.1 hq] at h
        simp only [Wr.bl, blockOf, List.mem_cons, List.not_mem_nil, or_false] at h
        exact hne h
  · rw [List.map_append, List.map_cons, List.map_nil, List.nodup_append]
    exact ⟨hN.nos, by simp, fun a ha c hc he => hnl (by have e2 : a = came := he.trans (List.mem_singleton.1 hc); rw [← e2]; exact ha)⟩
  · rw [hsp]; have := hN.full; have := hN.most1; omega

set_option maxRecDepth 100000 in
set_option maxHeartbeats 4000000 in
theorem offer_take {w : World} {b : TB} {Fh : List Nat} {ov : Value} {most wait cache now came : Int} {Kn : Tr → Option Bool} {Or : List Tr} {Q : List Wr} (h : TailIs w b Fh ov most wait cache now came Kn Or Q) (n : Int) (sp : Sp) (h1 : now ≤ n) (h2 : n ≤ 1099511627776)
    (hk : Kn sp.tr = none) (hfull : (spansOf Q : Int) < most) (hc : came < 1000000) :
    Calls Try.prog 31 #[.pointer (some ⟨b.tp, 0, none⟩), .int .i64 n, .agg sp.arr] w fun e w' => e = .returned (.tuple #[.int .u8 1, .int .u16 0]) ∧
      ∃ Fh' Q', TailIs w' b Fh' ov most wait cache n (cameA (Q.map Wr.ab) came sp.tr) Kn Or Q' ∧ Q'.map Wr.ab = takeA (Q.map Wr.ab) came (n + wait) sp ∧ Only (foot b Fh (blockOf ov) Q) w w' ∧ ∀ x ∈ foot b Fh' (blockOf ov) Q', x ∈ foot b Fh (blockOf ov) Q ∨ w.heap.size ≤ x := by
  obtain ⟨mst, msr, msk, hE, hM⟩ := h.env
  have hA := h.ap
  have hN := h.num
  have hl := hE.lt
  have htp : b.tp < w.heap.size := hl _ (mem_foot.2 (.inl (by simp [TB.fix])))
  obtain ⟨c3, hmk⟩ := hE.mq
  have hknown := hM.k sp.tr
  rw [hk] at hknown
  have HE := Lib.hid hE
  have HM := Lib.hid hM
  have HA := Lib.hid hA
  have HN := Lib.hid hN
  have H := Lib.hid h
  have Hl := Lib.hid hl
  obtain ⟨⟨hi, lo⟩, id, par, nm, st, en, bad, rv⟩ := sp
  clear hmk hE hM hA hN h hl hknown
  have o1 : Only [] w (w.alloc (.cells #[.int .u64 hi, .int .u64 lo, .int .u64 id, .int .u64 par, .string nm, .int .i64 st, .int .i64 en, .bool bad, .slice none 0 0, .int .u64 rv] 65)) := (Only.refl _ _).alloc _
  have B5 := Lib.hid (heap_alloc_new w (.cells #[.int .u64 hi, .int .u64 lo, .int .u64 id, .int .u64 par, .string nm, .int .i64 st, .int .i64 en, .bool bad, .slice none 0 0, .int .u64 rv] 65))
  have hE1 := HE.out.only o1 (by simp)
  have ct := turn_ok b.tp now n _ (by rw [cell_of_blk hE1.blk]; rfl) (frozen_of_blk hE1.blk) h1 h2
  have CT := Lib.hid ct
  have HE1 := Lib.hid hE1
  clear o1 ct hE1
  go_enter Try.func31, Try.ntmps31
  simp only [Sp.arr]
  go_wp2_with fail
  refine CT.out.mono ?_
  rintro e w2 ⟨rfl, hw2⟩
  have hE2 : Env w2 b (tArr b ov (spansOf Q) n came most wait cache) Fh most (Q.map tmOf) mst msr msk ov Or Q := by rw [hw2]; exact HE1.out.setTp HA.out 6 (.int .i64 n)
  have o2 : Only [b.tp] (w.alloc (.cells #[.int .u64 hi, .int .u64 lo, .int .u64 id, .int .u64 par, .string nm, .int .i64 st, .int .i64 en, .bool bad, .slice none 0 0, .int .u64 rv] 65)) w2 := by rw [hw2]; exact only_setTp _ _ _ _
  have B52 := o2.blk B5.out (by simp; omega)
  have O2 : Hid (Only (foot b Fh (blockOf ov) Q) w w2) := (((Only.refl [] _).alloc _).mono (by simp)).trans (o2.mono (fun x hx _ => by rw [List.mem_singleton] at hx; rw [hx]; exact mem_foot.2 (.inl (by simp [TB.fix]))))
  have hwl := O2.out.size
  have hb5l : w.heap.size < w2.heap.size := lt_of_blk B52
  generalize hb5 : w.heap.size = b5 at *
  have Hb5 := Lib.hid hb5
  have s0 : w2.cell? ⟨b5, 0, none⟩ = some (.int .u64 hi) := by rw [cell_of_blk B52]; rfl
  have s1 : w2.cell? ⟨b5, 1, none⟩ = some (.int .u64 lo) := by rw [cell_of_blk B52]; rfl
  clear hw2 CT HE1 o2 B5 HE hb5
  go_wp2_with fail
  have o3 : Only [] w2 (w2.alloc (.cells #[.int .u64 hi, .int .u64 lo] 116)) := (Only.refl _ _).alloc _
  have B9 := heap_alloc_new w2 (.cells #[.int .u64 hi, .int .u64 lo] 116)
  have hE3 := hE2.only o3 (by simp)
  have B53 := o3.blk B52 (by simp)
  have O3 := Lib.hid (O2.out.trans (o3.mono (by simp)))
  have hs3 : w2.heap.size < (w2.alloc (.cells #[.int .u64 hi, .int .u64 lo] 116)).heap.size := by simp
  generalize hb9 : w2.heap.size = b9 at *
  generalize w2.alloc (.cells #[.int .u64 hi, .int .u64 lo] 116) = w3 at *
  have k0 : w3.cell? ⟨b9, 0, none⟩ = some (.int .u64 hi) := by rw [cell_of_blk B9]; rfl
  have k1 : w3.cell? ⟨b9, 1, none⟩ = some (.int .u64 lo) := by rw [cell_of_blk B9]; rfl
  have r3 : w3.cell? ⟨b.tp, 3, none⟩ = some (.map (some b.mq)) := by rw [cell_of_blk hE3.blk]; rfl
  have htp3 : b.tp < w3.heap.size := lt_of_blk hE3.blk
  have hlk : ∀ m, (Instr.lookup 110 (.map (some b.mq)) (.agg #[.int .u64 hi, .int .u64 lo]) true).run Try.prog (w3.drewN m) = .ok (.tuple #[.bool false, .bool false]) (w3.drewN m) := fun m => by
    obtain ⟨c, hmk⟩ := hE3.mq
    have hg := HM.out.k (hi, lo)
    rw [hk] at hg
    have hz : (zeroValue 4).run Try.prog (w3.drewN m) = .ok (.bool false) (w3.drewN m) := Try.zeroValue4 _
    have h := run_lookup_ok (P := Try.prog) Try.underlying110 keyOk_trace hz (hmk.only ((Only.refl [] _).drewN m) (by simp)) (hi, lo)
    rw [hg] at h
    exact h
  have HE3 := Lib.hid hE3
  have HB := Lib.hid (And.intro B9 B53)
  clear hE2 hE3 B9 B53 B52 o3 O2 hk s0 s1 hs3
  go_quiet (fail)
  have o4 : Only [] w3 (w3.drewN nq) := (Only.refl [] _).drewN _
  have HE4 := Lib.hid (HE3.out.only o4 (by simp))
  have HB4 := Lib.hid (And.intro (o4.blk HB.out.1 (by simp)) (o4.blk HB.out.2 (by simp)))
  have O4 := Lib.hid (O3.out.trans (o4.mono (by simp)))
  clear HE3 HB O3 o4 hlk k0 k1 r3 htp3
  generalize w3.drewN nq = w4 at *
  go_wp2_with fail
  have r5 : w4.cell? ⟨b.tp, 5, none⟩ = some (.int .i64 (spansOf Q)) := by rw [cell_of_blk HE4.out.blk]; rfl
  have r8 : w4.cell? ⟨b.tp, 8, none⟩ = some (.int .i64 most) := by rw [cell_of_blk HE4.out.blk]; rfl
  have g1 : decide (most ≤ (spansOf Q : Int)) = false := decide_eq_false (by omega)
  have htp4 : b.tp < w4.heap.size := lt_of_blk HE4.out.blk
  go_quiet (fail)
  have o5 : Only [] w4 (w4.drewN nq) := (Only.refl [] _).drewN _
  have HE5 := Lib.hid (HE4.out.only o5 (by simp))
  have HB5 := Lib.hid (And.intro (o5.blk HB4.out.1 (by simp)) (o5.blk HB4.out.2 (by simp)))
  have O5 := Lib.hid (O4.out.trans (o5.mono (by simp)))
  clear HE4 HB4 O4 o5 r5 r8 htp4
  generalize w4.drewN nq = w5 at *
  go_wp2_with fail
  have k0 : w5.cell? ⟨b9, 0, none⟩ = some (.int .u64 hi) := by rw [cell_of_blk HB5.out.1]; rfl
  have k1 : w5.cell? ⟨b9, 1, none⟩ = some (.int .u64 lo) := by rw [cell_of_blk HB5.out.1]; rfl
  have r1 : w5.cell? ⟨b.tp, 1, none⟩ = some (.map (some b.mt)) := by rw [cell_of_blk HE5.out.blk]; rfl
  have htp5 : b.tp < w5.heap.size := lt_of_blk HE5.out.blk
  have hlk : ∃ (no0 : Int) (rb : Bool), (∀ m, (Instr.lookup 108 (.map (some b.mt)) (.agg #[.int .u64 hi, .int .u64 lo]) true).run Try.prog (w5.drewN m) = .ok (.tuple #[.int .i64 no0, .bool rb]) (w5.drewN m)) ∧
      ((rb = true ∧ ∃ (i : Nat) (p : Wr), Q[i]? = some p ∧ p.tr = (hi, lo) ∧ p.no = no0) ∨ (rb = false ∧ (hi, lo) ∉ Q.map (·.tr))) := by
    obtain ⟨c, hmt⟩ := HE5.out.mt
    have hz : ∀ m, (zeroValue 3).run Try.prog (w5.drewN m) = .ok (.int .i64 0) (w5.drewN m) := fun m => Try.zeroValue3 _
    have h := fun m => run_lookup_ok (P := Try.prog) Try.underlying108 keyOk_trace (hz m) (hmt.only ((Only.refl [] _).drewN m) (by simp)) (hi, lo)
    rcases mapsay_get HM.out (hi, lo) with ⟨i, p, h1, h2, h3⟩ | ⟨h1, h3⟩
    · rw [h3] at h
      exact ⟨p.no, true, h, .inl ⟨rfl, i, p, h1, h2, rfl⟩⟩
    · rw [h3] at h
      exact ⟨0, false, h, .inr ⟨rfl, h1⟩⟩
  obtain ⟨no0, rb, hlk, hcase⟩ := hlk
  have Hcase := Lib.hid hcase
  clear hcase
  go_quiet (fail)
  have o6 : Only [] w5 (w5.drewN nq) := (Only.refl [] _).drewN _
  have HE6 := Lib.hid (HE5.out.only o6 (by simp))
  have HB6 := Lib.hid (And.intro (o6.blk HB5.out.1 (by simp)) (o6.blk HB5.out.2 (by simp)))
  have O6 := Lib.hid (O5.out.trans (o6.mono (by simp)))
  clear HE5 HB5 O5 o6 hlk k0 k1 r1 htp5
  generalize w5.drewN nq = w6 at *
  go_upto_if 62 with fail
  go_cut [12] (fun s12 wx => ∃ (Fh1 : List Nat) (came1 : Int) (Q1 : List Wr) (i : Nat) (p : Wr), s12 = .int .i64 p.no ∧ MidO wx b Fh1 ov most wait cache n came1 Kn Or Q1 i p b5 ⟨(hi, lo), id, par, nm, st, en, bad, rv⟩ ∧ Chose Q came Q1 came1 n wait (hi, lo) i p ∧
    Only (foot b Fh (blockOf ov) Q) w wx ∧ ∀ x ∈ foot b Fh1 (blockOf ov) Q1, x ∈ foot b Fh (blockOf ov) Q ∨ w.heap.size ≤ x)
  case first =>
    rcases Hcase.out with ⟨rfl, i, p, hi1, hi2, rfl⟩ | ⟨rfl, hnew⟩
    · go_wp2_with fail
      go_meet
      have hsp := spans_ge hi1
      have hfu := HN.out.full
      have hmo := HN.out.most1
      exact ⟨Fh, came, Q, i, p, rfl, ⟨⟨mst, msr, msk, HE6.out, HM.out⟩, HA.out, hi1, HB6.out.2, fun hm => by have := Hl.out _ hm; have := Hb5.out; omega, HN.out.nos, by omega, by omega⟩, .inl ⟨rfl, rfl, hi2⟩, O6.out, fun x hx => .inl hx⟩
    · have r7 : w6.cell? ⟨b.tp, 7, none⟩ = some (.int .i64 came) := by rw [cell_of_blk HE6.out.blk]; rfl
      have f6 : ∀ i, w6.frozen? ⟨b.tp, i, none⟩ = false := fun i => frozen_of_blk HE6.out.blk
      have htp6 : b.tp < w6.heap.size := lt_of_blk HE6.out.blk
      have hc0 := HN.out.came0
      have nb9 : b9 ≠ b.tp := by omega
      have nb5 : b5 ≠ b.tp := by omega
      go_wp2_with fail
      have o7 := only_setTp w6 b.tp 7 (.int .i64 (came + 1))
      have hE7 : Env (w6.setCell ⟨b.tp, 7, none⟩ (.int .i64 (came + 1))) b (tArr b ov (spansOf Q) n (came + 1) most wait cache) Fh most (Q.map tmOf) mst msr msk ov Or Q := HE6.out.setTp HA.out 7 (.int .i64 (came + 1))
      have HE7 := Lib.hid hE7
      have HB7 := Lib.hid (And.intro (o7.blk HB6.out.1 (by simpa using nb9)) (o7.blk HB6.out.2 (by simpa using nb5)))
      have O7 := Lib.hid (O6.out.trans (o7.mono (fun x hx _ => by rw [List.mem_singleton] at hx; rw [hx]; exact mem_foot.2 (.inl (by simp [TB.fix])))))
      clear hE7 HE6 HB6 O6 o7 r7 f6 htp6
      generalize w6.setCell ⟨b.tp, 7, none⟩ (.int .i64 (came + 1)) = w7 at *
      have k0 : w7.cell? ⟨b9, 0, none⟩ = some (.int .u64 hi) := by rw [cell_of_blk HB7.out.1]; rfl
      have k1 : w7.cell? ⟨b9, 1, none⟩ = some (.int .u64 lo) := by rw [cell_of_blk HB7.out.1]; rfl
      have r1 : w7.cell? ⟨b.tp, 1, none⟩ = some (.map (some b.mt)) := by rw [cell_of_blk HE7.out.blk]; rfl
      have htp7 : b.tp < w7.heap.size := lt_of_blk HE7.out.blk
      have htp7' : b.mt < w7.drew.heap.size := HE7.out.lt _ (mem_foot.2 (.inl (by simp [TB.fix])))
      have mb9 : b9 ≠ b.mt := fun he => by have := Hl.out b.mt (mem_foot.2 (.inl (by simp [TB.fix]))); omega
      have mb5 : b5 ≠ b.mt := fun he => by have := Hl.out b.mt (mem_foot.2 (.inl (by simp [TB.fix]))); have := Hb5.out; omega
      obtain ⟨c7, hmt⟩ := HE7.out.mt
      have od : Only [] w7 w7.drew := (Only.refl [] _).drew
      obtain ⟨mst', c7', hup, q1, q2, q3, q4⟩ := run_mapUpdate_mem (P := Try.prog) Try.underlying108 keyOk_trace (hmt.only od (by simp)) (hi, lo) (.int .i64 came)
      have hup' : (Instr.mapUpdate 108 (.map (some b.mt)) (.agg #[.int .u64 hi, .int .u64 lo]) (.int .i64 came)).run Try.prog w7.drew = .ok () (ChangeMaps.setBlock w7.drew b.mt (.map (mst'.map (Ent.mk' encTr)).toArray c7')) := hup
      have HQ := Lib.hid (And.intro q1 (And.intro q2 (And.intro q3 q4)))
      clear hup q1 q2 q3 q4 hmt od
      go_region
      have hE8 := (HE7.out.only (Only.drew (Only.refl [] w7)) (by simp)).setMt HA.out (o := .map (mst'.map (Ent.mk' encTr)).toArray c7') (MapMem.put htp7' HQ.out.1 HQ.out.2.1 HQ.out.2.2.1)
      have o8 : Only [b.mt] w7 (ChangeMaps.setBlock w7.drew b.mt (.map (mst'.map (Ent.mk' encTr)).toArray c7')) := ((Only.refl [b.mt] w7).drew).trans (only_setBl w7.drew b.mt _)
      have HE8 := Lib.hid hE8
      have HB8 := Lib.hid (And.intro (o8.blk HB7.out.1 (by simpa using mb9)) (o8.blk HB7.out.2 (by simpa using mb5)))
      have O8 := Lib.hid (O7.out.trans (o8.mono (fun x hx _ => by rw [List.mem_singleton] at hx; rw [hx]; exact mem_foot.2 (.inl (by simp [TB.fix])))))
      have H8 := Lib.hid HQ.out.2.2.2
      clear hE8 HE7 HB7 O7 o8 HQ k0 k1 r1 htp7 hup'
      generalize ChangeMaps.setBlock w7.drew b.mt (.map (mst'.map (Ent.mk' encTr)).toArray c7') = w8 at *
      go_wp2_with fail
      have k0 : w8.cell? ⟨b9, 0, none⟩ = some (.int .u64 hi) := by rw [cell_of_blk HB8.out.1]; rfl
      have k1 : w8.cell? ⟨b9, 1, none⟩ = some (.int .u64 lo) := by rw [cell_of_blk HB8.out.1]; rfl
      have r2 : w8.cell? ⟨b.tp, 2, none⟩ = some (.map (some b.mr)) := by rw [cell_of_blk HE8.out.blk]; rfl
      have htp8 : b.tp < w8.heap.size := lt_of_blk HE8.out.blk
      have hb98 : b9 < w8.heap.size := lt_of_blk HB8.out.1
      obtain ⟨c8, hmr⟩ := HE8.out.mr
      have od : Only [] w8 (w8.alloc (.cells #[.int .u64 hi, .int .u64 lo, .slice none 0 0] 119)).drew := ((Only.refl [] _).alloc _).drew
      obtain ⟨msr', c8', hup, q1, q2, q3, q4⟩ := run_mapUpdate_mem (P := Try.prog) Try.underlying109 (keyOk_int Try.underlying3) (hmr.only od (by simp)) came (.pointer (some ⟨w8.heap.size, 0, none⟩))
      have HQ := Lib.hid (And.intro q1 (And.intro q2 (And.intro q3 q4)))
      clear q1 q2 q3 q4 hmr
      go_region
      have mrl : b.mr < (w8.alloc (.cells #[.int .u64 hi, .int .u64 lo, .slice none 0 0] 119)).drew.heap.size := od.lt (HE8.out.lt _ (mem_foot.2 (.inl (by simp [TB.fix]))))
      have mrb9 : b9 ≠ b.mr := fun he => by have := Hl.out b.mr (mem_foot.2 (.inl (by simp [TB.fix]))); omega
      have mrb5 : b5 ≠ b.mr := fun he => by have := Hl.out b.mr (mem_foot.2 (.inl (by simp [TB.fix]))); have := Hb5.out; omega
      have mrw : w8.heap.size ≠ b.mr := fun he => by have := HE8.out.lt b.mr (mem_foot.2 (.inl (by simp [TB.fix]))); omega
      have hBw := heap_alloc_new w8 (.cells #[.int .u64 hi, .int .u64 lo, .slice none 0 0] 119)
      have hE9 := (HE8.out.only od (by simp)).setMr HA.out (o := .map (msr'.map (Ent.mk' (Value.int .i64))).toArray c8') (MapMem.put mrl HQ.out.1 HQ.out.2.1 HQ.out.2.2.1)
      have o9 : Only [b.mr] (w8.alloc (.cells #[.int .u64 hi, .int .u64 lo, .slice none 0 0] 119)) (ChangeMaps.setBlock (w8.alloc (.cells #[.int .u64 hi, .int .u64 lo, .slice none 0 0] 119)).drew b.mr (.map (msr'.map (Ent.mk' (Value.int .i64))).toArray c8')) := ((Only.refl [b.mr] _).drew).trans (only_setBl _ b.mr _)
      have o89 : Only [b.mr] w8 (ChangeMaps.setBlock (w8.alloc (.cells #[.int .u64 hi, .int .u64 lo, .slice none 0 0] 119)).drew b.mr (.map (msr'.map (Ent.mk' (Value.int .i64))).toArray c8')) := ((Only.refl [b.mr] _).alloc _).trans o9
      have HE9 := Lib.hid hE9
      have HB9 := Lib.hid (And.intro (o9.blk hBw (by simpa using mrw)) (o89.blk HB8.out.2 (by simpa using mrb5)))
      have O9 := Lib.hid (O8.out.trans (o89.mono (fun x hx _ => by rw [List.mem_singleton] at hx; rw [hx]; exact mem_foot.2 (.inl (by simp [TB.fix])))))
      have H9 := Lib.hid HQ.out.2.2.2
      have hs89 := o89.size
      have hw8n : w8.heap.size ∉ foot b Fh (blockOf ov) Q := fun hm => Nat.lt_irrefl _ (HE8.out.lt _ hm)
      have hw8w : w.heap.size ≤ w8.heap.size := O8.out.size
      have Hw8n := Lib.hid hw8n
      have hb58 : b5 ≠ w8.heap.size := fun he => by have := lt_of_blk HB8.out.2; omega
      clear hE9 HE8 HB8 O8 o9 o89 HQ k0 k1 r2 htp8 hb98 hup od mrl hBw mrb9 mrb5 mrw hw8n
      generalize hw9 : ChangeMaps.setBlock (w8.alloc (.cells #[.int .u64 hi, .int .u64 lo, .slice none 0 0] 119)).drew b.mr (.map (msr'.map (Ent.mk' (Value.int .i64))).toArray c8') = w9 at *
      clear hw9
      generalize hbw : w8.heap.size = bw at *
      clear hbw
      go_wp2_with fail
      have r0 : w9.cell? ⟨b.tp, 0, none⟩ = some (.pointer (some ⟨b.hp, 0, none⟩)) := by rw [cell_of_blk HE9.out.blk]; rfl
      have r9 : w9.cell? ⟨b.tp, 9, none⟩ = some (.int .i64 wait) := by rw [cell_of_blk HE9.out.blk]; rfl
      have htp9 : b.tp < w9.heap.size := lt_of_blk HE9.out.blk
      have hn0 : 0 ≤ n := by have := HN.out.now0; omega
      have hw1 : 1 ≤ wait := HN.out.wait0
      have hw2 : wait ≤ 1099511627776 := HN.out.wait1
      have hwr : IntKind.i64.wrap (n + wait) = n + wait := by simp [IntKind.wrap, IntKind.bits, IntKind.signed]; omega
      have hpt : pushTold (n + wait, came) (Q.map tmOf) most = 0 := by
        have hh : hasT came (Q.map tmOf) = false := by
          cases hq : hasT came (Q.map tmOf) with
          | false => rfl
          | true =>
            obtain ⟨t, ht, hti⟩ := hasT_iff.1 hq
            obtain ⟨q, hq2, rfl⟩ := List.mem_map.1 ht
            have := (HN.out.lt q hq2).2
            simp only [tmOf] at hti
            omega
        have hl2 := spans_len HN.out.ne
        unfold pushTold
        rw [hh, if_neg (by simp), if_neg (by rw [List.length_map]; omega)]
      have CP := Lib.hid (heap_Push (HE9.out.heap.only (Only.drew (Only.refl [] w9)) (by simp)) (n + wait, came) hpt)
      clear hpt
      go_region_with (go_at_call 17; go_must (refine CP.out.mono ?_; rintro e w10 ⟨rfl, Fh2, h10, o10, hF10⟩; have HP := Lib.hid (And.intro h10 (And.intro o10 hF10)); clear h10 o10 hF10))
      all_goals go_wp2_with fail
      all_goals go_meet
      all_goals
        refine ⟨Fh2, came + 1, Q ++ [⟨came, n + wait, (hi, lo), [], bw, .slice none 0 0⟩], Q.length, ⟨came, n + wait, (hi, lo), [], bw, .slice none 0 0⟩, rfl,
          midO_new HE9.out HA.out HN.out HM.out H8.out H9.out HB9.out.1 HB9.out.2 Hw8n.out (fun hm => by have := Hl.out _ hm; have := Hb5.out; omega) hb58 HP.out.1 (((Only.refl Fh w9).drew).trans HP.out.2.1) HP.out.2.2 hnew h1, .inr ⟨hnew, rfl, rfl, rfl, rfl, rfl, rfl⟩,
          O9.out.trans ((((Only.refl Fh w9).drew).trans HP.out.2.1).mono (fun x hx _ => mem_foot.2 (.inr (.inl hx)))), fun x hx => ?_⟩
        rcases mem_foot.1 hx with h | h | h | ⟨q, hq, h⟩
        · exact .inl (mem_foot.2 (.inl h))
        · rcases HP.out.2.2 x h with h | h
          · exact .inl (mem_foot.2 (.inr (.inl h)))
          · exact .inr (Nat.le_trans O9.out.size h)
        · exact .inl (mem_foot.2 (.inr (.inr (.inl h))))
        · rcases List.mem_append.1 hq with hq | hq
          · exact .inl (mem_foot.2 (.inr (.inr (.inr ⟨q, hq, h⟩))))
          · rw [List.mem_singleton.1 hq] at h
            simp only [Wr.bl, blockOf, List.mem_cons, List.not_mem_nil, or_false] at h
            rw [h]
            exact .inr hw8w
  case rest =>
    obtain ⟨Fh1, came1, Q1, i, p, rfl, hMid, hCh, hO, hFt⟩ := hcut
    obtain ⟨mst1, msr1, msk1, hE, hM1⟩ := hMid.env
    have hi := hMid.hi
    have hpm := List.mem_of_getElem? hi
    obtain ⟨pa, pc, hsv⟩ := (hE.rows p hpm).sl.form
    rw [List.length_map] at hsv
    obtain ⟨pno, pdue, ptr, psps, pwb, psv⟩ := p
    simp only at hsv
    subst hsv
    have hrow := hE.rows _ hpm
    have hlk : (Instr.lookup 109 (.map (some b.mr)) (.int .i64 pno) false).run Try.prog wc = .ok (.pointer (some ⟨pwb, 0, none⟩)) wc := by
      obtain ⟨c, hmr⟩ := hE.mr
      have h := run_lookup_one (P := Try.prog) Try.underlying109 (keyOk_int Try.underlying3) (z := .pointer none) (Try.zeroValue117 _) hmr pno
      rw [mapsay_row hM1 hMid.nos hi] at h
      exact h
    have r2 : wc.cell? ⟨b.tp, 2, none⟩ = some (.map (some b.mr)) := by rw [cell_of_blk hE.blk]; rfl
    have htpc : b.tp < wc.heap.size := lt_of_blk hE.blk
    have hb5 := hMid.b5
    have hb5l := lt_of_blk hb5
    have s8 : wc.cell? ⟨b5, 8, none⟩ = some (.slice none 0 0) := by rw [cell_of_blk hb5]; rfl
    have f8 : wc.frozen? ⟨b5, 8, none⟩ = false := frozen_of_blk hb5
    have HMid := Lib.hid hMid
    have HCh := Lib.hid hCh
    have HO := Lib.hid hO
    have HFt := Lib.hid hFt
    have HE := Lib.hid hE
    have HM1 := Lib.hid hM1
    have Hi := Lib.hid hi
    have Hb5' := Lib.hid hb5
    have Hrow := Lib.hid hrow
    clear hMid hCh hO hFt hE hM1 hi hb5 hrow hpm Hcase HE6 HB6 O6
    go_wp2_with fail
    refine (clone_attr_nil _).mono ?_
    rintro e w7 ⟨rfl, rfl⟩
    go_wp2_with fail
    have o7 := only_setTp w7 b5 8 (.slice none 0 0)
    have n5 : ∀ x ∈ foot b Fh1 (blockOf ov) Q1, x ∉ [b5] := fun x hx hm => HMid.out.ne5 (by rw [List.mem_singleton] at hm; rw [← hm]; exact hx)
    have HE7 := Lib.hid (HE.out.only o7 n5)
    have B57 : (w7.setCell ⟨b5, 8, none⟩ (.slice none 0 0)).heap[b5]? = some (.cells (Sp.arr ⟨(hi, lo), id, par, nm, st, en, bad, rv⟩) 65 (0, 0)) := setCell_blk (i := 8) (v := .slice none 0 0) Hb5'.out
    have o67 : Only [b5] w7 (w7.setCell ⟨b5, 8, none⟩ (.slice none 0 0)) := o7
    have Hn5 := Lib.hid n5
    have hb5w : w.heap.size ≤ b5 := by have := Hb5.out; omega
    have HO7 : Hid (Only (foot b Fh (blockOf ov) Q) w (w7.setCell ⟨b5, 8, none⟩ (.slice none 0 0))) := HO.out.trans' o7 (fun x hx hlt => by rw [List.mem_singleton] at hx; omega)
    have hsz78 : w7.heap.size ≤ (w7.setCell ⟨b5, 8, none⟩ (.slice none 0 0)).heap.size := o7.size
    clear HE HO hlk r2 htpc hb5l s8 f8 o67 o7 n5
    generalize w7.setCell ⟨b5, 8, none⟩ (.slice none 0 0) = w8 at *
    have hrow8 := HE7.out.rows _ (List.mem_of_getElem? Hi.out)
    obtain ⟨w0', w1', w2', wf⟩ := span_row hrow8
    simp only at w2'
    have hwbl := lt_of_blk hrow8.blk
    simp only at hwbl
    have s0 : w8.cell? ⟨b5, 0, none⟩ = some (.int .u64 hi) := by rw [cell_of_blk B57]; rfl
    have s1 : w8.cell? ⟨b5, 1, none⟩ = some (.int .u64 lo) := by rw [cell_of_blk B57]; rfl
    have s2 : w8.cell? ⟨b5, 2, none⟩ = some (.int .u64 id) := by rw [cell_of_blk B57]; rfl
    have s3 : w8.cell? ⟨b5, 3, none⟩ = some (.int .u64 par) := by rw [cell_of_blk B57]; rfl
    have s4 : w8.cell? ⟨b5, 4, none⟩ = some (.string nm) := by rw [cell_of_blk B57]; rfl
    have s5 : w8.cell? ⟨b5, 5, none⟩ = some (.int .i64 st) := by rw [cell_of_blk B57]; rfl
    have s6 : w8.cell? ⟨b5, 6, none⟩ = some (.int .i64 en) := by rw [cell_of_blk B57]; rfl
    have s7 : w8.cell? ⟨b5, 7, none⟩ = some (.bool bad) := by rw [cell_of_blk B57]; rfl
    have s8 : w8.cell? ⟨b5, 8, none⟩ = some (.slice none 0 0) := by rw [cell_of_blk B57]; rfl
    have s9 : w8.cell? ⟨b5, 9, none⟩ = some (.int .u64 rv) := by rw [cell_of_blk B57]; rfl
    have hb58 : b5 < w8.heap.size := lt_of_blk B57
    have oW : Only [] w8 (w8.alloc (.cells #[.int .u64 hi, .int .u64 lo, .int .u64 id, .int .u64 par, .string nm, .int .i64 st, .int .i64 en, .bool bad, .slice none 0 0, .int .u64 rv] 65)).drew := ((Only.refl [] _).alloc _).drew
    have hBn := heap_alloc_new w8 (.cells #[.int .u64 hi, .int .u64 lo, .int .u64 id, .int .u64 par, .string nm, .int .i64 st, .int .i64 en, .bool bad, .slice none 0 0, .int .u64 rv] 65)
    have hpl : psps.length ≤ 10000 := HMid.out.len
    obtain ⟨i0, z0, hi0, hz0, hz1, hz2, hz3⟩ := info_span
    obtain ⟨g, off, cap', w9, hap, hrm, o9, hg⟩ := run_append_is (P := Try.prog) (t := 69) (ty := 69) (a := ⟨w8.heap.size, 0, none⟩) (m := 1) (c := 1) (news := [Sp.cells ⟨(hi, lo), id, par, nm, st, en, bad, rv⟩]) Try.underlying69 hi0 hz0 hz1 rfl hz3
      (hrow8.sl.only oW (by simp)) rfl (by simp [Sp.cells]) (by
        intro j v hj
        have hadd : (⟨w8.heap.size, 0, none⟩ : Addr).add j = ⟨w8.heap.size, j, none⟩ := by unfold Addr.add; split <;> simp_all
        rw [hadd]
        refine (cell_of_blk (w := w8.alloc _) hBn).trans ?_
        have h2 : (Sp.arr ⟨(hi, lo), id, par, nm, st, en, bad, rv⟩)[j]? = (Sp.cells ⟨(hi, lo), id, par, nm, st, en, bad, rv⟩)[j]? := by
          rw [show Sp.arr ⟨(hi, lo), id, par, nm, st, en, bad, rv⟩ = (Sp.cells ⟨(hi, lo), id, par, nm, st, en, bad, rv⟩).toArray from rfl, List.getElem?_toArray]
        have h3 : [Sp.cells ⟨(hi, lo), id, par, nm, st, en, bad, rv⟩].flatten = Sp.cells ⟨(hi, lo), id, par, nm, st, en, bad, rv⟩ := by simp
        rw [h3] at hj
        exact h2.trans hj) (by simp [Sp.cells, Value.oneCell']) (by omega) (by simp only [List.length_map, maxLen]; omega) (by
          rw [List.length_map]
          exact Nat.le_trans (Nat.mul_le_mul (show psps.length + 1 ≤ 10001 by omega) hz2) (by omega))
    simp only [List.length_map] at hap
    have hwbn : pwb ∉ blockOf (.slice pa psps.length pc) := hrow8.ap
    have nW := o9.cell (oW.cell w2' (by simp)) hwbn
    have fW : w9.frozen? ⟨pwb, 2, none⟩ = false := (World.frozen?_of_block (a := ⟨pwb, 2, none⟩) (o9.block pwb (oW.lt hwbl) hwbn)).trans (frozen_of_blk (oW.blk hrow8.blk (by simp)))
    have hwb9 : pwb < w9.heap.size := lt_of_cell nW
    have HAP := Lib.hid (And.intro hrm (And.intro o9 hg))
    have HW := Lib.hid oW
    clear hrm o9 hg hBn oW hi0 hz0 hz1 hz2 hz3 hrow8 w0' w1' hwbn
    go_region
    obtain ⟨hrm, o9, hg⟩ := HAP.out
    obtain ⟨hR, oR, hRb⟩ := row_more (sp := ⟨(hi, lo), id, par, nm, st, en, bad, rv⟩) (HE7.out.rows _ (List.mem_of_getElem? Hi.out)) HW.out hrm o9 hg
    obtain ⟨hE10, hA10⟩ := (HE7.out.only HW.out (by simp)).setRow HMid.out.ap Hi.out oR hR hRb
    have HE10 := Lib.hid hE10
    have HA10 := Lib.hid hA10
    have HRb := Lib.hid hRb
    have HOR : Hid (Only (foot b Fh (blockOf ov) Q) w (w9.setCell ⟨pwb, 2, none⟩ (.slice (some ⟨g, off, none⟩) (psps.length + 1) cap'))) := (HO7.out.trans' HW.out (by simp)).trans' oR (fun x hx hlt => by
      rcases HFt.out x (mem_foot.2 (.inr (.inr (.inr ⟨_, List.mem_of_getElem? Hi.out, hx⟩)))) with h | h
      · exact h
      · omega)
    have HWs := Lib.hid (HW.out.size)
    clear hrm o9 hg hR oR hRb hE10 hA10 HAP HW HE7 B57 s0 s1 s2 s3 s4 s5 s6 s7 s8 s9 nW fW hwb9 hap w2' wf hwbl
    generalize w9.setCell ⟨pwb, 2, none⟩ (.slice (some ⟨g, off, none⟩) (psps.length + 1) cap') = w10 at *
    have r5 : w10.cell? ⟨b.tp, 5, none⟩ = some (.int .i64 (spansOf Q1)) := by rw [cell_of_blk HE10.out.blk]; rfl
    have f5 : w10.frozen? ⟨b.tp, 5, none⟩ = false := frozen_of_blk HE10.out.blk
    have htp10 : b.tp < w10.heap.size := lt_of_blk HE10.out.blk
    have hsm : (spansOf Q1 : Int) ≤ 10000 := by have := HMid.out.sum; omega
    go_wp2_with fail
    go_ret2
    obtain ⟨hNm, hsum, htm, htn⟩ := nums_more (s := ⟨(hi, lo), id, par, nm, st, en, bad, rv⟩) (q := ⟨pno, pdue, ptr, psps ++ [⟨(hi, lo), id, par, nm, st, en, bad, rv⟩], pwb, .slice (some ⟨g, off, none⟩) (psps.length + 1) cap'⟩) HN.out HCh.out Hi.out rfl h1 h2 hfull hc
    obtain ⟨hab, hca⟩ := chose_take (s := ⟨(hi, lo), id, par, nm, st, en, bad, rv⟩) (q := ⟨pno, pdue, ptr, psps ++ [⟨(hi, lo), id, par, nm, st, en, bad, rv⟩], pwb, .slice (some ⟨g, off, none⟩) (psps.length + 1) cap'⟩) HCh.out Hi.out HN.out.trs rfl
    have hE11 := HE10.out.setTp HA10.out 5 (.int .i64 ((spansOf Q1 : Int) + 1))
    have htn2 : (Q1.set i ⟨pno, pdue, ptr, psps ++ [⟨(hi, lo), id, par, nm, st, en, bad, rv⟩], pwb, .slice (some ⟨g, off, none⟩) (psps.length + 1) cap'⟩).map (fun q => (q.no, q.wb)) = Q1.map (fun q => (q.no, q.wb)) := map_set_same _ Hi.out rfl
    refine ⟨rfl, Fh1, _, ⟨⟨mst1, msr1, msk1, ?_, ?_⟩, HA10.out, by rw [← hca]; exact hNm⟩, hab, HOR.out.trans ((only_setTp w10 b.tp 5 _).mono (fun x hx _ => by rw [List.mem_singleton] at hx; rw [hx]; exact mem_foot.2 (.inl (by simp [TB.fix])))), fun x hx => ?_⟩
    · rw [hsum, htm, ← hca]
      have e1 : (((spansOf Q1 + 1 : Nat)) : Int) = (spansOf Q1 : Int) + 1 := by omega
      rw [e1]
      exact hE11
    · exact ⟨fun k => by rw [htn]; exact HM1.out.t k, fun k => by rw [htn2]; exact HM1.out.r k, HM1.out.k⟩
    · rcases mem_foot.1 hx with h | h | h | ⟨q, hq, h⟩
      · exact HFt.out x (mem_foot.2 (.inl h))
      · exact HFt.out x (mem_foot.2 (.inr (.inl h)))
      · exact HFt.out x (mem_foot.2 (.inr (.inr (.inl h))))
      · obtain ⟨j, hj⟩ := List.getElem?_of_mem hq
        by_cases hji : i = j
        · subst hji
          rw [List.getElem?_set_self (List.getElem?_eq_some_iff.1 Hi.out).1] at hj
          cases hj
          rcases HRb.out x h with h | h
          · exact HFt.out x (mem_foot.2 (.inr (.inr (.inr ⟨_, List.mem_of_getElem? Hi.out, h⟩))))
          · exact .inr (Nat.le_trans (Nat.le_trans HO7.out.size HWs.out) h)
        · rw [List.getElem?_set_ne hji] at hj
          exact HFt.out x (mem_foot.2 (.inr (.inr (.inr ⟨q, List.mem_of_getElem? hj, h⟩))))

end Go.Proofs.Ytcppnmogdmpdbaa
