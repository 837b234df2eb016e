/- Package prio, walked: New, Len, Add. -/
import Derived.Test.YtbboklmmnnedjaaPf
set_option linter.unusedVariables false
set_option linter.unusedSimpArgs false
namespace Go.Proofs.Ytbboklmmnnedjaa
open Go.RowKit Go.Mk Go.Pr

/-- What Add makes of the offers that are held, the least one first. -/
def addS (keep : Nat) (S : List Of) (o : Of) : List Of := if (insT o S).length ≤ keep + 1 then insT o S else (insT o S).tail

structure SamplerAt (w : World) (hp keep draws many : Nat) (S : List Of) (sv : Value) : Prop where
  body : ∃ L, LeastAt w hp [.int .i64 keep, .int .u64 draws, .int .i64 many] 54 sv L ∧ HeapN (atL L) L.length ∧ L.Perm S
  sorted : SortedT S
  room : S.length ≤ keep + 1
  places : ∀ o ∈ S, o.p < many
  keep1 : 1 ≤ keep
  keep2 : keep ≤ 1000
  draws64 : draws < 18446744073709551616
  short : many ≤ 5000

theorem sampler_new {w : World} (keep draws : Nat) (h1 : 1 ≤ keep) (h2 : keep ≤ 1000) (h3 : draws < 18446744073709551616) :
    Calls Try.prog 10 #[.int .i64 keep, .int .u64 draws] w fun e w' => e = .returned (.pointer (some ⟨w.heap.size, 0, none⟩)) ∧ SamplerAt w' w.heap.size keep draws 0 [] (.slice none 0 0) ∧ Only [] w w' ∧ w'.heap.size = w.heap.size + 1 := by
  have g1 : decide ((keep : Int) < 1) = false := decide_eq_false (by omega)
  have g2 : decide ((1000 : Int) < keep) = false := decide_eq_false (by omega)
  go_enter Try.func10, Try.ntmps10
  go_wp2_with fail
  go_ret
  refine ⟨rfl, ⟨⟨[], ⟨heap_alloc_new _ _, .nil, by simp [blockOf], by simp⟩, by intro k h0 hk; simp at hk, List.Perm.refl _⟩, List.Pairwise.nil, by simp, by simp, h1, h2, h3, by omega⟩, (Only.refl _ _).alloc _, by simp⟩

theorem sampler_none {w : World} (keep : Int) (draws : Nat) (h : keep < 1 ∨ 1000 < keep) :
    Calls Try.prog 10 #[.int .i64 keep, .int .u64 draws] w fun e w' => e = .returned (.pointer none) ∧ w' = w := by
  by_cases h1 : keep < 1
  · go_enter Try.func10, Try.ntmps10
    go_wp2_with fail
    go_ret
    exact ⟨rfl, rfl⟩
  · have h2 : 1000 < keep := by omega
    go_enter Try.func10, Try.ntmps10
    go_wp2_with fail
    go_ret
    exact ⟨rfl, rfl⟩

theorem sampler_len {w : World} {hp keep draws many : Nat} {S : List Of} {sv : Value} (h : SamplerAt w hp keep draws many S sv) :
    Calls Try.prog 14 #[.pointer (some ⟨hp, 0, none⟩)] w fun e w' => e = .returned (.int .i64 many) ∧ w' = w := by
  obtain ⟨L, hL, _, _⟩ := h.body
  have c3 : w.cell? ⟨hp, 3, none⟩ = some (.int .i64 many) := by rw [cell_of_blk hL.blk]; simp
  go_enter Try.func14, Try.ntmps14
  go_wp2_with fail
  go_ret
  exact ⟨rfl, rfl⟩

/-- Add, of a weight that is none. -/
theorem sampler_refuse {w : World} (p : Value) (weight draw : Nat) (h : weight = 0 ∨ 4294967296 < weight) :
    Calls Try.prog 11 #[p, .int .u64 weight, .int .u64 draw] w fun e w' => e = .returned (.tuple #[.int .i64 (-1), .int .u16 1]) ∧ w' = w := by
  by_cases h1 : weight = 0
  · subst h1
    go_enter Try.func11, Try.ntmps11
    go_wp2_with fail
    go_ret2
    exact ⟨rfl, rfl⟩
  · have g1 : ((weight : Int) == 0) = false := beq_eq_false_iff_ne.2 (by omega)
    have g2 : (4294967296 : Int) < weight := by omega
    go_enter Try.func11, Try.ntmps11
    go_wp2_with fail
    go_ret2
    exact ⟨rfl, rfl⟩

end Go.Proofs.Ytbboklmmnnedjaa
