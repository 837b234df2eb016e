/- Package dedup, walked: New, Low, Ahead and Take do to the numbers what the plain law says. -/
import Derived.Test.YtaldaaihkpckoaaDb
import Derived.Deep.RegionWith
import Derived.Deep.LoopGhost
import Derived.Deep.DeepCutAuto
import Derived.StillTailTactics
import Derived.Lib.Small
namespace Go.Proofs.Ytaldaaihkpckoaa
open Go.RowKit Go.Mk Go.Dd

structure SeenAt (w : World) (sp : Nat) (sv : Value) (lo : Int) (A : List Int) (most : Nat) : Prop where
  c0 : w.cell? ⟨sp, 0, none⟩ = some (.int .i64 lo)
  c1 : w.cell? ⟨sp, 1, none⟩ = some sv
  c2 : w.cell? ⟨sp, 2, none⟩ = some (.int .i64 most)
  fz : ∀ i, w.frozen? ⟨sp, i, none⟩ = false
  sl : IntsAre w A sv
  ap : sp ∉ blockOf sv

/-- What lies at sp knows the numbers below lo and those of A; of the blocks F nobody else knows. -/
def SeenObj (w : World) (sp : Nat) (F : List Nat) (lo : Int) (A : List Int) (most : Nat) : Prop :=
  ∃ sv, SeenAt w sp sv lo A most ∧ F = sp :: blockOf sv ∧ Ok lo A most ∧ most ≤ 1000

theorem SeenAt.only {w w' : World} {sp : Nat} {sv : Value} {lo : Int} {A : List Int} {most : Nat} {S : List Nat} (h : SeenAt w sp sv lo A most) (ho : Only S w w') (hs : sp ∉ S) (hb : ∀ b ∈ blockOf sv, b ∉ S) : SeenAt w' sp sv lo A most :=
  ⟨ho.cell h.c0 hs, ho.cell h.c1 hs, ho.cell h.c2 hs, fun i => (World.frozen?_of_block (a := ⟨sp, i, none⟩) (ho.block sp (lt_of_cell h.c0) hs)).trans (h.fz i), h.sl.only ho hb, h.ap⟩

theorem SeenObj.only {w w' : World} {sp : Nat} {F : List Nat} {lo : Int} {A : List Int} {most : Nat} {S : List Nat} (h : SeenObj w sp F lo A most) (ho : Only S w w') (hs : ∀ b ∈ F, b ∉ S) : SeenObj w' sp F lo A most := by
  obtain ⟨sv, h1, rfl, h2⟩ := h
  exact ⟨sv, h1.only ho (hs _ (by simp)) (fun b hb => hs b (by simp [hb])), rfl, h2⟩

theorem SeenObj.ok {w : World} {sp : Nat} {F : List Nat} {lo : Int} {A : List Int} {most : Nat} (h : SeenObj w sp F lo A most) : Ok lo A most := by
  obtain ⟨sv, h1, rfl, h2, h3⟩ := h
  exact h2

theorem SeenObj.lts {w : World} {sp : Nat} {F : List Nat} {lo : Int} {A : List Int} {most : Nat} (h : SeenObj w sp F lo A most) : ∀ b ∈ F, b < w.heap.size := by
  obtain ⟨sv, h1, rfl, h2, h3⟩ := h
  intro b hb
  rcases List.mem_cons.1 hb with rfl | hb
  · exact lt_of_cell h1.c0
  · exact h1.sl.lt b hb

theorem seen_new_nil (m : Int) (hm : m < 0 ∨ 1000 < m) (w : World) :
    Calls Try.prog 8 #[.int .i64 m] w fun e w' => e = .returned (.pointer none) ∧ w = w' := by
  go_enter Try.func8, Try.ntmps8
  rcases hm with hm | hm
  · have g : decide (m < 0) = true := by simpa using hm
    go_wp2
    go_ret
    exact ⟨rfl, rfl⟩
  · have g : decide (m < 0) = false := by simp; omega
    have g2 : decide (1000 < m) = true := by simpa using hm
    go_wp2
    go_ret
    exact ⟨rfl, rfl⟩

theorem seen_new (m : Nat) (hm : m ≤ 1000) (w : World) :
    Calls Try.prog 8 #[.int .i64 m] w fun e w' => ∃ sp F, e = .returned (.pointer (some ⟨sp, 0, none⟩)) ∧ SeenObj w' sp F 0 [] m ∧ Only [] w w' ∧ ∀ b ∈ F, w.heap.size ≤ b := by
  have g : decide ((m : Int) < 0) = false := by simp
  have g2 : decide (1000 < (m : Int)) = false := by simp; omega
  go_enter Try.func8, Try.ntmps8
  go_wp2
  go_ret
  refine ⟨_, _, rfl, ⟨.slice none 0 0, ⟨?_, ?_, ?_, ?_, .nil, by simp [blockOf]⟩, rfl, ok_nil, hm⟩, (Only.refl _ _).alloc _, by simp [blockOf]⟩
  · simp [go_sem]
  · simp [go_sem]
  · simp [go_sem]
  · intro i; exact frozen_of_blk (heap_alloc_new w _)

theorem seen_Low {w : World} {sp : Nat} {F : List Nat} {lo : Int} {A : List Int} {most : Nat} (h : SeenObj w sp F lo A most) :
    Calls Try.prog 11 #[.pointer (some ⟨sp, 0, none⟩)] w fun e w' => e = .returned (.int .i64 lo) ∧ w = w' := by
  obtain ⟨sv, h1, rfl, h2, h3⟩ := h
  have c0 := h1.c0
  go_enter Try.func11, Try.ntmps11
  go_wp2
  go_ret
  exact ⟨rfl, rfl⟩

theorem seen_Ahead {w : World} {sp : Nat} {F : List Nat} {lo : Int} {A : List Int} {most : Nat} (h : SeenObj w sp F lo A most) :
    Calls Try.prog 10 #[.pointer (some ⟨sp, 0, none⟩)] w fun e w' => ∃ rv, e = .returned rv ∧ IntsAre w' A rv ∧ Only [] w w' ∧ ∀ b ∈ blockOf rv, w.heap.size ≤ b := by
  obtain ⟨sv, h1, rfl, h2, h3⟩ := h
  have c1 := h1.c1
  have hl : A.length ≤ 1000000 := by have := h2.cap; omega
  have C := Lib.hid (dd_clone h1.sl hl)
  go_enter Try.func10, Try.ntmps10
  go_wp2_with (go_at_call 20; refine C.out.mono ?_; rintro e w' ⟨rv, rfl, h4, h5, h6⟩)
  go_ret
  exact ⟨_, rfl, h4, h5, h6⟩

end Go.Proofs.Ytaldaaihkpckoaa
