/- What a buffer of package tail is, by its traces that wait and what is known; its small methods, walked. -/
import Derived.Test.YtcppnmogdmpdbaaKb
import Derived.Deep.DeepCutAuto
set_option linter.unusedVariables false
set_option linter.unusedSimpArgs false
namespace Go.Proofs.Ytcppnmogdmpdbaa
open Go.RowKit Go.Mk Go.Hp
attribute [-go_sem] Builtin.append_

def spansOf (Q : List Wr) : Nat := (Q.map fun q => q.sps.length).sum
def tmOf (q : Wr) : Tm := (q.due, q.no)

def tArr (b : TB) (ov : Value) (spans now came most wait cache : Int) : Array Value :=
  #[.pointer (some ⟨b.hp, 0, none⟩), .map (some b.mt), .map (some b.mr), .map (some b.mq), ov, .int .i64 spans, .int .i64 now, .int .i64 came, .int .i64 most, .int .i64 wait, .int .i64 cache]

/-- What the maps say of the traces. -/
structure MapsSay (mst : List (Ent Tr)) (msr : List (Ent Int)) (msk : List (Ent Tr)) (Q : List Wr) (Kn : Tr → Option Bool) : Prop where
  t : ∀ k, getL k mst = (asc (Q.map fun q => (q.tr, q.no)) k).map (Value.int .i64)
  r : ∀ k, getL k msr = (asc (Q.map fun q => (q.no, q.wb)) k).map (fun x => Value.pointer (some ⟨x, 0, none⟩))
  k : ∀ k, getL k msk = (Kn k).map Value.bool

/-- The numbers of a buffer. -/
structure NumsOk (most wait cache now came : Int) (Q : List Wr) : Prop where
  nos : (Q.map (·.no)).Nodup
  trs : (Q.map (·.tr)).Nodup
  lt : ∀ q ∈ Q, 0 ≤ q.no ∧ q.no < came
  due : ∀ q ∈ Q, q.due ≤ now + wait
  ne : ∀ q ∈ Q, q.sps ≠ []
  now0 : 0 ≤ now
  now1 : now ≤ 1099511627776
  wait0 : 1 ≤ wait
  wait1 : wait ≤ 1099511627776
  came0 : 0 ≤ came
  came1 : came ≤ 1000000
  most1 : most ≤ 5000
  cache0 : 1 ≤ cache
  full : spansOf Q ≤ most

structure TailIs (w : World) (b : TB) (Fh : List Nat) (ov : Value) (most wait cache now came : Int) (Kn : Tr → Option Bool) (Or : List Tr) (Q : List Wr) : Prop where
  env : ∃ mst msr msk, Env w b (tArr b ov (spansOf Q) now came most wait cache) Fh most (Q.map tmOf) mst msr msk ov Or Q ∧ MapsSay mst msr msk Q Kn
  ap : Apart b Fh (blockOf ov) Q
  num : NumsOk most wait cache now came Q

theorem turn_ok (tp : Nat) (now n : Int) (w : World) (h : w.cell? ⟨tp, 6, none⟩ = some (.int .i64 now)) (f : w.frozen? ⟨tp, 6, none⟩ = false) (h1 : now ≤ n) (h2 : n ≤ 1099511627776) :
    Calls Try.prog 51 #[.pointer (some ⟨tp, 0, none⟩), .int .i64 n] w fun e w' => e = .returned (.int .u16 0) ∧ w' = w.setCell ⟨tp, 6, none⟩ (.int .i64 n) := by
  have g1 : decide (n < now) = false := decide_eq_false (by omega)
  have g2 : decide (1099511627776 < n) = false := decide_eq_false (by omega)
  have hl := lt_of_cell h
  go_enter Try.func51, Try.ntmps51
  go_wp2
  go_ret
  exact ⟨rfl, rfl⟩

theorem turn_not (tp : Nat) (now n : Int) (w : World) (h : w.cell? ⟨tp, 6, none⟩ = some (.int .i64 now)) (h1 : n < now ∨ 1099511627776 < n) :
    Calls Try.prog 51 #[.pointer (some ⟨tp, 0, none⟩), .int .i64 n] w fun e w' => e = .returned (.int .u16 60) ∧ w' = w := by
  have hl := lt_of_cell h
  by_cases h2 : n < now
  · have g1 : decide (n < now) = true := decide_eq_true h2
    go_enter Try.func51, Try.ntmps51
    go_wp2
    go_ret
    exact ⟨rfl, rfl⟩
  · have g1 : decide (n < now) = false := decide_eq_false h2
    have g2 : decide (1099511627776 < n) = true := decide_eq_true (by omega)
    go_enter Try.func51, Try.ntmps51
    go_wp2
    go_ret
    exact ⟨rfl, rfl⟩

theorem clone_attr_nil (w : World) : Calls Try.prog 52 #[.slice none 0 0] w fun e w' => e = .returned (.slice none 0 0) ∧ w' = w := by
  have q22 : ∀ (w : World) (a : Option Addr) (n c n' c' : Nat), (binOp .eql 63 (.slice a n c) (.slice none n' c')).run Try.prog w = .ok (.bool a.isNone) w := fun w a n c n' c' => Lib.run_eql_slice_nil w _ _ a n c n' c' Try.underlying63
  go_enter Try.func52, Try.ntmps52
  go_wp2
  go_ret
  exact ⟨rfl, rfl⟩

theorem tail_Len {w : World} {b : TB} {Fh : List Nat} {ov : Value} {most wait cache now came : Int} {Kn : Tr → Option Bool} {Or : List Tr} {Q : List Wr} (h : TailIs w b Fh ov most wait cache now came Kn Or Q) :
    Calls Try.prog 35 #[.pointer (some ⟨b.tp, 0, none⟩)] w fun e w' => e = .returned (.int .i64 (spansOf Q)) ∧ w' = w := by
  obtain ⟨mst, msr, msk, hE, _⟩ := h.env
  have h5 : w.cell? ⟨b.tp, 5, none⟩ = some (.int .i64 (spansOf Q)) := by rw [cell_of_blk hE.blk]; rfl
  go_enter Try.func35, Try.ntmps35
  go_wp2
  go_ret
  exact ⟨rfl, rfl⟩

set_option maxRecDepth 100000 in
set_option maxHeartbeats 1000000 in
theorem tail_new {w : World} (s wt c : Int) (h1 : 1 ≤ s) (h2 : s ≤ 5000) (h3 : 1 ≤ wt) (h4 : wt ≤ 1099511627776) (h5 : 1 ≤ c) (h6 : c ≤ 5000) :
    Calls Try.prog 29 #[.int .i64 s, .int .i64 wt, .int .i64 c] w fun e w' => ∃ b Fh, e = .returned (.pointer (some ⟨b.tp, 0, none⟩)) ∧ TailIs w' b Fh (.slice none 0 0) s wt c 0 0 (fun _ => none) [] [] ∧ Only [] w w' ∧ ∀ x ∈ foot b Fh [] [], w.heap.size ≤ x := by
  have g1 : decide (wt < 1) = false := decide_eq_false (by omega)
  have g2 : decide (1099511627776 < wt) = false := decide_eq_false (by omega)
  have g3 : decide (c < 1) = false := decide_eq_false (by omega)
  have g4 : decide (5000 < c) = false := decide_eq_false (by omega)
  have hmm := @run_makeMap Try.prog
  go_enter Try.func29, Try.ntmps29
  go_wp2_with fail
  refine (heap_new s h1 h2).mono ?_
  rintro e w1 ⟨hp, Fh, rfl, hH, hF, o1⟩
  have HH := Lib.hid hH
  have HF := Lib.hid hF
  have O1 := Lib.hid o1
  clear hH hF o1
  go_wp2_with fail
  go_ret
  have e1 : (w1.alloc (.map #[] 0)).heap.size = w1.heap.size + 1 := by simp
  have e2 : ((w1.alloc (.map #[] 0)).alloc (.map #[] 0)).heap.size = w1.heap.size + 1 + 1 := by simp
  have e3 : (((w1.alloc (.map #[] 0)).alloc (.map #[] 0)).alloc (.map #[] 0)).heap.size = w1.heap.size + 1 + 1 + 1 := by simp
  have m0 : (w1.alloc (.map #[] 0)).heap[w1.heap.size]? = some (.map #[] 0) := heap_alloc_new w1 _
  have m1 := heap_alloc_new (w1.alloc (.map #[] 0)) (.map #[] 0)
  have m2 := heap_alloc_new ((w1.alloc (.map #[] 0)).alloc (.map #[] 0)) (.map #[] 0)
  rw [e1] at m1
  rw [e2] at m2
  have oA : Only [] (w1.alloc (.map #[] 0)) ((w1.alloc (.map #[] 0)).alloc (.map #[] 0)) := (Only.refl _ _).alloc _
  have oB : Only [] ((w1.alloc (.map #[] 0)).alloc (.map #[] 0)) (((w1.alloc (.map #[] 0)).alloc (.map #[] 0)).alloc (.map #[] 0)) := (Only.refl _ _).alloc _
  have m0 := oB.blk (oA.blk m0 (by simp)) (by simp)
  have m1 := oB.blk m1 (by simp)
  have oW : Only [] w1 (((w1.alloc (.map #[] 0)).alloc (.map #[] 0)).alloc (.map #[] 0)) := (((Only.refl _ _).alloc _).alloc _).alloc _
  generalize ((w1.alloc (.map #[] 0)).alloc (.map #[] 0)).alloc (.map #[] 0) = w2 at *
  have hT := heap_alloc_new w2 (.cells #[.pointer (some ⟨hp, 0, none⟩), .map (some w1.heap.size), .map (some (w1.heap.size + 1)), .map (some (w1.heap.size + 1 + 1)), .slice none 0 0, .int .i64 0, .int .i64 0, .int .i64 0, .int .i64 s, .int .i64 wt, .int .i64 c] 113)
  have oT : Only [] w2 (w2.alloc (.cells #[.pointer (some ⟨hp, 0, none⟩), .map (some w1.heap.size), .map (some (w1.heap.size + 1)), .map (some (w1.heap.size + 1 + 1)), .slice none 0 0, .int .i64 0, .int .i64 0, .int .i64 0, .int .i64 s, .int .i64 wt, .int .i64 c] 113)) := (Only.refl _ _).alloc _
  rw [e3] at hT
  have m0 := oT.blk m0 (by simp)
  have m1 := oT.blk m1 (by simp)
  have m2 := oT.blk m2 (by simp)
  have hlt := HH.out.lts
  have hsz := O1.out.size
  refine ⟨⟨w1.heap.size + 1 + 1 + 1, hp, w1.heap.size, w1.heap.size + 1, w1.heap.size + 1 + 1⟩, Fh, rfl, ⟨⟨[], [], [], ⟨hT, (HH.out.only oW (by simp)).only oT (by simp), ⟨0, m0, by simp, by simp, by simp⟩, ⟨0, m1, by simp, by simp, by simp⟩, ⟨0, m2, by simp, by simp, by simp⟩, .nil, by simp⟩, ⟨by simp [getL, asc], by simp [getL, asc], by simp [getL]⟩⟩,
    ⟨?_, ?_, by simp [blockOf], by simp, by simp⟩, ⟨by simp, by simp, by simp, by simp, by simp, by omega, by omega, h3, h4, by omega, by omega, h2, h5, by simp [spansOf]; omega⟩⟩, (O1.out.trans oW).trans oT, ?_⟩
  · simp [TB.fix]; omega
  · intro x hx
    simp only [TB.fix, List.mem_cons, List.not_mem_nil, or_false] at hx
    refine ⟨fun hm => ?_, by simp [blockOf]⟩
    have := hlt x hm
    omega
  · intro x hx
    rcases mem_foot.1 hx with hx | hx | hx | ⟨q, hq, _⟩
    · simp only [TB.fix, List.mem_cons, List.not_mem_nil, or_false] at hx
      omega
    · exact HF.out x hx
    · cases hx
    · cases hq

end Go.Proofs.Ytcppnmogdmpdbaa
