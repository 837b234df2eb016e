/- A range over a function: a round out of its body, the statement out of the iterator's call. No program stands in this text. -/
import Derived.Test.YtfnbkcdcdeojfaaDoorMb
import Derived.RangeFuncNested
import Derived.RangeFuncBound
import Derived.RangeFuncCalls
import Derived.RangeFuncLeaves
import Derived.Shelf.Abstract
import Derived.Shelf.RegionOpen
import Derived.OwnWalkIn
import Derived.TacticsInMore
import Derived.LoopNIn
import Derived.LoopIn
import Derived.Laws.Tables
import Derived.Laws.Rows
set_option linter.unusedVariables false
set_option linter.unusedSimpArgs false
namespace Go.Mk
open Go.RowKit

variable {F : Fence} {n : Nat} {P : Program}

/-- A whole struct is stored into a block of its own. -/
theorem wpListIn_store_row {ops : Array Oper} {rest : List Oper} {o : Oper} {a : Act} {w : World} {Q : Exit → Act → World → Prop} (hg : o.guard = none) (ty : TypeId) (x y : Operand) (hop : o.op = .store ty x y)
    (g : Nat) (cells : Array Value) (hx : a.eval x = .pointer (some ⟨g, 0, none⟩)) (hy : a.eval y = .agg cells)
    (t : TypeId) (old : Array Value) (hgb : w.heap[g]? = some (.cells old t (0, 0))) (hi : (P.info? ty).map (·.size) = some cells.size)
    (hold : old.size = cells.size) (h1 : cells.all (·.oneCell') = true)
    (hK : wpListIn F n P ops Q rest (a.put o.dst undef) (w.setRow g cells)) : wpListIn F n P ops Q (o :: rest) a w := by
  refine wpListIn_plain hg fun K hK' => ?_
  unfold Oper.wpIn
  refine ⟨?_, ?_⟩
  · simp [Oper.about, hop]
  · rw [Oper.semAt_plain F _ _ (by rw [hop]; intro c hc'; cases hc')]
    simp only [execOp, hop, hx, hy, Instr.storeAt, Instr.sureAddr, Sem.run_bind, Sem.run_pure, Result.andThen_ok, run_storeVar_row w g t ty old cells hgb hi hold h1]
    exact hK' _ _ hK

theorem wpListIn_load_row {ops : Array Oper} {rest : List Oper} {o : Oper} {a : Act} {w : World} {Q : Exit → Act → World → Prop} (hg : o.guard = none) (ty : TypeId) (x : Operand) (hop : o.op = .load ty x)
    (g : Nat) (hx : a.eval x = .pointer (some ⟨g, 0, none⟩)) (t : TypeId) (cs : Array Value) (fr : Nat × Nat) (d : TypeDesc) (hgb : w.heap[g]? = some (.cells cs t fr))
    (hu : P.underlying ty = some d) (hd : (match d with | .struct _ | .array _ _ => true | _ => false) = true) (hi : (P.info? ty).map (·.size) = some cs.size)
    (hK : wpListIn F n P ops Q rest (a.put o.dst (.agg cs)) w) : wpListIn F n P ops Q (o :: rest) a w := by
  refine wpListIn_plain hg fun K hK' => ?_
  unfold Oper.wpIn
  refine ⟨?_, ?_⟩
  · simp [Oper.about, hop]
  · rw [Oper.semAt_plain F _ _ (by rw [hop]; intro c hc'; cases hc')]
    simp only [execOp, hop, hx, Instr.loadAt, Instr.sureAddr, Sem.run_bind, Sem.run_pure, Result.andThen_ok, run_loadVar_row w g t ty cs fr d hgb hu hd hi]
    exact hK' _ _ hK

theorem wpListIn_build {ops : Array Oper} {rest : List Oper} {o : Oper} {a : Act} {w : World} {Q : Exit → Act → World → Prop} (hg : o.guard = none) (ty : TypeId) (parts : Array (Nat × Operand)) (hop : o.op = .build ty parts)
    (cells : Array Value) (hf : P.built ty (parts.map fun (i, x) => (i, a.eval x)).toList = some cells)
    (hK : wpListIn F n P ops Q rest (a.put o.dst (.agg cells)) w) : wpListIn F n P ops Q (o :: rest) a w := by
  refine wpListIn_plain hg fun K hK' => ?_
  unfold Oper.wpIn
  refine ⟨?_, ?_⟩
  · simp [Oper.about, hop]
  · rw [Oper.semAt_plain F _ _ (by rw [hop]; intro c hc'; cases hc')]
    simp only [execOp, hop, Sem.run_bind, run_build w ty _ cells hf, Result.andThen_ok]
    exact hK' _ _ hK

/-- How the body of a round may be left, the record r being busy. -/
def roundQ (l : Nat) (r : Loop) (R : Ending → World → Prop) : Exit → Act → World → Prop
  | .normal, _, W => W.heap[l]? = some (.loop { r with state := .busy }) ∧ R (.returned (.bool true)) (W.putObj l (.loop { r with state := .ready, pending := none }))
  | .ret, _, W => W.heap[l]? = some (.loop { r with state := .busy }) ∧ R (.returned (.bool false)) (W.putObj l (.loop { r with state := .done, pending := some .ret }))
  | .exit id, _, W => W.heap[l]? = some (.loop { r with state := .busy }) ∧ R (.returned (.bool false)) (W.putObj l (.loop { r with state := .done, pending := some (.exit id) }))
  | .goto t, _, W => W.heap[l]? = some (.loop { r with state := .busy }) ∧ R (.returned (.bool false)) (W.putObj l (.loop { r with state := .done, pending := some (.goto t) }))
  | _, _, _ => False

theorem yield_go {l : Nat} {r : Loop} {args : Array Value} {W : World} {R : Ending → World → Prop} (hW : W.heap[l]? = some (.loop r)) (hr : r.state = .ready) (hs : args.size = r.params.size) (hF : F.fn r.fn)
    (hb : r.assign.wpIn (F.inRound l) n P (Exit.then (fun a₁ w₁ => w₁.heap[l]? = some (.loop r) ∧ r.body.wpIn (F.inRound l) n P (roundQ l r R) a₁ (w₁.putObj l (.loop { r with state := .busy }))) (fun _ _ _ => False))
      { tmps := (r.params.zip args).foldl (fun t (p, v) => t.setIfInBounds p v) r.tmps, defers := [] } W) : YieldAt F n P l args W R := by
  refine ⟨r.fn, _, r.assign, r.body, run_yield hW hs, roundIn_of_wpIn hF (wpIn_mono hb ?_)⟩
  rintro e a1 w1 h
  cases e with
  | normal =>
    obtain ⟨h1, h2⟩ := h
    refine ⟨_, run_beginRound h1 hr, wpIn_mono h2 ?_⟩
    rintro e2 a2 w2 h3
    cases e2 with
    | normal => exact ⟨_, _, run_endRound none h3.1, h3.2⟩
    | ret => exact ⟨_, _, run_endRound (some .ret) h3.1, h3.2⟩
    | exit id => exact ⟨_, _, run_endRound (some (.exit id)) h3.1, h3.2⟩
    | goto t => exact ⟨_, _, run_endRound (some (.goto t)) h3.1, h3.2⟩
    | panic c => exact h3.elim
    | outgrown => exact h3.elim
  | ret => exact h.elim
  | exit id => exact h.elim
  | goto t => exact h.elim
  | panic c => exact h.elim
  | outgrown => exact h.elim

theorem yield_go2 {l : Nat} {r : Loop} {args : Array Value} {W : World} {R : Ending → World → Prop} (hW : W.heap[l]? = some (.loop r)) (hr : r.state = .ready) (hs : args.size = r.params.size) (hF : F.fn r.fn) {a₁ : Act}
    (hassign : ∀ K : Act → World → Prop, K a₁ W → r.assign.wpIn (F.inRound l) n P (Exit.then K (fun _ _ _ => False)) { tmps := (r.params.zip args).foldl (fun t (p, v) => t.setIfInBounds p v) r.tmps, defers := [] } W)
    (hbody : r.body.wpIn (F.inRound l) n P (roundQ l r R) a₁ (W.putObj l (.loop { r with state := .busy }))) : YieldAt F n P l args W R :=
  yield_go hW hr hs hF (hassign _ ⟨hW, hbody⟩)

/-- What is asked behind the iterator: its record, ready or done, and how the function goes on. -/
def rangeQ (F : Fence) (n : Nat) (P : Program) (l : Nat) (Q : Exit → Act → World → Prop) (a : Act) (e : Ending) (W : World) : Prop :=
  ∃ v r, e = .returned v ∧ W.heap[l]? = some (.loop r) ∧ r.state ≠ .busy ∧
    (r.pending = none → Q .normal a (W.putObj l (.loop { r with state := .exhausted }))) ∧
    (∀ c, r.pending = some c → c.wpIn F n P Q a (W.putObj l (.loop { r with state := .exhausted })))

theorem rangeFunc_go {g : Operand} {ps : Array Tmp} {assign body : Code} {Q : Exit → Act → World → Prop} {a : Act} {w : World}
    (hro : F.round = none) (hd : F.depth = none) {gf : Nat} {lb : Array Value} (hg : a.eval g = .func (.func gf) #[] lb) (hFg : F.fn gf) (eg : ∀ args w, (callFunc gf args).run P w = .ok (.enter gf args) w)
    (h : ∀ fn, F.fn fn → ∀ r : Loop, r = { state := .ready, pending := none, fn, tmps := a.tmps, params := ps, assign, body, defers := w.heap.size } →
      CallsIn F (n - 1) P gf (#[.func (.yield (w.heap.size + 1)) #[] #[]] ++ lb) ((w.alloc (.deferred (some []))).alloc (.loop r))
        (rangeQ F n P (w.heap.size + 1) Q { a with defers := { target := .collected w.heap.size, args := #[] } :: a.defers })) :
    (Code.rangeFunc g ps assign body).wpIn F n P Q a w := by
  refine wpIn_rangeFunc ?_
  intro fn hfn
  rw [hro]
  obtain ⟨r, hr⟩ : ∃ r : Loop, r = { state := .ready, pending := none, fn, tmps := a.tmps, params := ps, assign, body, defers := w.heap.size } := ⟨_, rfl⟩
  have hc := h fn hfn r hr
  obtain ⟨W1, hW1⟩ : ∃ W1, W1 = (w.alloc (.deferred (some []))).alloc (.loop r) := ⟨_, rfl⟩
  rw [← hW1] at hc
  refine ⟨w.heap.size + 1, [{ target := .collected w.heap.size, args := #[] }], W1, { target := .fn (.func gf) lb, args := #[.func (.yield (w.heap.size + 1)) #[] #[]] }, W1, gf, _, W1, by rw [hW1, hr]; exact run_enterLoop_outer _ _ _ _ _, ?_, ?_, ?_, ?_, hc.mono ?_⟩
  · simp only [resolve, hg]
    simp [go_sem]
  · intro f' hf'; simp [Target.leads] at hf'; subst hf'; exact hFg
  · simp [invoke, go_sem, eg]
  · intro h1; rw [hd] at h1; cases h1
  · rintro e W ⟨v, ⟨st, pe, fn2, tm, pa, asg, bo, de⟩, rfl, h1, h2, h3, h4⟩
    refine ⟨_, _, run_endLoop h1 h2, ?_⟩
    cases pe with
    | none => exact h3 rfl
    | some c => exact h4 c rfl

theorem putObj_other {W : World} {l k : Nat} {o o' : Obj} (h : W.heap[k]? = some o) (hk : k ≠ l) : (W.putObj l o').heap[k]? = some o := (World.putObj_heap_other hk).trans h
theorem putObj_same {W : World} {l : Nat} {o o' : Obj} (h : W.heap[l]? = some o) : (W.putObj l o').heap[l]? = some o' := World.putObj_heap_same (Array.getElem?_eq_some_iff.1 h).1
theorem only_putObj (W : World) (l : Nat) (o : Obj) : Only [l] W (W.putObj l o) :=
  ⟨rfl, rfl, rfl, by simp [World.putObj], fun k _ hn => World.putObj_heap_other (fun e => hn (by simp [e]))⟩
theorem Only.putObj {S : List Nat} {a W : World} (h : Only S a W) {l : Nat} (hl : l ∈ S ∨ a.heap.size ≤ l) (o : Obj) : Only S a (W.putObj l o) :=
  h.trans' (only_putObj W l o) (fun x hx hlt => by
    rw [List.mem_singleton] at hx
    subst hx
    rcases hl with hl | hl
    · exact hl
    · omega)

theorem Only.back {S : List Nat} {a W : World} {l : Nat} (h : Only (l :: S) a W) (he : W.heap[l]? = a.heap[l]?) : Only S a W :=
  ⟨h.os, h.tape, h.output, h.size, fun k hk hn => by
    by_cases e : k = l
    · subst e; exact he
    · exact h.block k hk (fun hm => (List.mem_cons.1 hm).elim e hn)⟩

end Go.Mk
