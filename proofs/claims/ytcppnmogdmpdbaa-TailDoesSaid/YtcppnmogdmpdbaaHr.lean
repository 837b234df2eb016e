/- The methods of telemeter/heap's row, walked: what Len, Less, Swap, Push and Pop of a row do to its list of timers and to its map of places. -/
import Derived.Test.YtcppnmogdmpdbaaChecked
import Derived.Test.YtcppnmogdmpdbaaMm
import Derived.Test.YtcppnmogdmpdbaaHp
import Derived.Deep.RegionWith
import Derived.StillTailTactics
import Derived.Lib.Small
set_option linter.unusedVariables false
set_option linter.unusedSimpArgs false
namespace Go.Proofs.Ytcppnmogdmpdbaa
open Go.RowKit Go.Mk Go.Hp

theorem region_tail {P : Program} {id : Nat} {Q : Exit → Act → World → Prop} {a : Act} {w : World} {l : List Oper} (n : Nat) (hm : P.follows .mixedOrders = true) (hB : Region.lexTailB .any l.toArray n = true)
    (h : wpStill P l.toArray w.drew (fun a' => wpList P l.toArray Q (l.drop n) a' w.drew) (l.take n) a) : (Code.region id l.toArray true).wp P Q a w := wp_region_still_tail n hm hB h

theorem ret_int {k : IntKind} {a b : Int} (h : a = b) : Ending.returned (.int k a) = .returned (.int k b) := by rw [h]

def cmpInt (x y : Int) : Int := if x < y then -1 else if y < x then 1 else 0
def orInt (a c : Int) : Int := if a ≠ 0 then a else c

set_option maxHeartbeats 1000000 in
theorem cmp_Compare (x y : Int) (w : World) :
    Calls Try.prog 87 #[.int .i64 x, .int .i64 y] w fun e w' => e = .returned (.int .i64 (cmpInt x y)) ∧ w = w' := by
  go_enter Try.func87, Try.ntmps87
  go_wp2
  all_goals (go_ret; refine ⟨?_, rfl⟩; unfold cmpInt; (repeat' split) <;> first | rfl | (exfalso; omega))

theorem cmp_Compare' (x y : Int) (w : World) :
    Calls Try.prog 87 #[.int .i64 x, .int .i64 y] w fun e w' => e = .returned (.int .i64 (cmpInt x y)) ∧ w' = w := (cmp_Compare x y w).mono fun _ _ ⟨h, k⟩ => ⟨h, k.symm⟩

set_option maxHeartbeats 1000000 in
theorem cmp_Or (a c : Int) (B cap : Nat) (w : World) (h0 : w.cell? ⟨B, 0, none⟩ = some (.int .i64 a)) (h1 : w.cell? ⟨B, 1, none⟩ = some (.int .i64 c)) :
    Calls Try.prog 86 #[.slice (some ⟨B, 0, none⟩) 2 cap] w fun e w' => e = .returned (.int .i64 (orInt a c)) ∧ w = w' := by
  go_enter Try.func86, Try.ntmps86
  go_wp2
  go_loop [5, 8] (fun _ i => ∃ k : Nat, k ≤ 2 ∧ i = .int .i64 k ∧ (0 < k → a = 0) ∧ (1 < k → c = 0)) (fun _ i => 2 - (intOf i).toNat)
  case atStart => exact ⟨0, by omega, rfl, fun h => absurd h (by omega), fun h => absurd h (by omega)⟩
  case round =>
    obtain ⟨k, hk, rfl, ha, hc⟩ := hrel
    have hcc : k = 0 ∨ k = 1 ∨ k = 2 := by omega
    rcases hcc with rfl | rfl | rfl
    · clear ha hc
      by_cases hz : a = 0
      · subst hz
        go_wp2
        go_round
        case rel => exact ⟨1, by omega, rfl, fun _ => by simp, fun h => absurd h (by omega)⟩
        case measure => simp [intOf]
      · go_wp2
        all_goals (go_ret; exact ⟨ret_int (by unfold orInt; rw [if_pos hz]), rfl⟩)
    · have haz := ha (by omega)
      clear ha hc
      subst haz
      by_cases hz : c = 0
      · subst hz
        go_wp2
        go_round
        case rel => exact ⟨2, by omega, rfl, fun _ => by simp, fun _ => by simp⟩
        case measure => simp [intOf]
      · go_wp2
        all_goals (go_ret; exact ⟨ret_int (by unfold orInt; rw [if_neg (by omega)]), rfl⟩)
    · have haz := ha (by omega)
      have hcz := hc (by omega)
      clear ha hc
      subst haz hcz
      go_wp2
      go_ret
      exact ⟨rfl, rfl⟩

def encT (t : Tm) : List Value := [.int .i64 t.1, .int .i64 t.2]
theorem lt_of_cmp (a b : Tm) : decide (orInt (cmpInt a.1 b.1) (cmpInt a.2 b.2) < 0) = ltT a b := by
  unfold orInt cmpInt ltT
  apply decide_eq_decide.2
  constructor
  · intro h
    repeat' split at h
    all_goals first | omega | (simp at *; done) | skip
    all_goals omega
  · intro h
    repeat' split
    all_goals first | omega | (simp at *; done) | skip
    all_goals omega

structure PosIs (ms : List (Ent Int)) (L : List Tm) : Prop where
  there : ∀ (i : Nat) (t : Tm), L[i]? = some t → getL t.2 ms = some (.int .i64 i)
  only : ∀ no v, getL no ms = some v → ∃ (i : Nat) (t : Tm), L[i]? = some t ∧ t.2 = no

/-- The row at block hp: its slice, its map's block, its timers. -/
structure RowAt (w : World) (hp bm : Nat) (most : Int) (sv : Value) (L : List Tm) : Prop where
  c0 : w.cell? ⟨hp, 0, none⟩ = some sv
  c1 : w.cell? ⟨hp, 1, none⟩ = some (.map (some bm))
  c2 : w.cell? ⟨hp, 2, none⟩ = some (.int .i64 most)
  fz : ∀ i, w.frozen? ⟨hp, i, none⟩ = false
  sl : SliceIs w 30 2 (L.map encT) sv
  ap : hp ∉ blockOf sv
  mp : ∃ ms clock, MapMem w (Value.int .i64) bm ms clock ∧ PosIs ms L

theorem row_len (hp : Nat) (p : Option Addr) (n cap : Nat) (w : World) (h0 : w.cell? ⟨hp, 0, none⟩ = some (.slice p n cap)) :
    Calls Try.prog 45 #[.pointer (some ⟨hp, 0, none⟩)] w fun e w' => e = .returned (.int .i64 n) ∧ w = w' := by
  go_enter Try.func45, Try.ntmps45
  go_wp2
  go_ret
  exact ⟨rfl, rfl⟩

set_option maxRecDepth 100000 in
set_option maxHeartbeats 1000000 in
theorem row_less_cells (b bs os i j len cap : Nat) (A B : Tm) (w : World)
    (h0 : w.cell? ⟨b, 0, none⟩ = some (.slice (some ⟨bs, os, none⟩) len cap))
    (hb : b < w.heap.size) (hbs : bs < w.heap.size) (hi : (i : Int) < len) (hj : (j : Int) < len)
    (ci0 : w.cell? ⟨bs, os + i * 2, none⟩ = some (.int .i64 A.1)) (ci1 : w.cell? ⟨bs, os + i * 2 + 1, none⟩ = some (.int .i64 A.2))
    (cj0 : w.cell? ⟨bs, os + j * 2, none⟩ = some (.int .i64 B.1)) (cj1 : w.cell? ⟨bs, os + j * 2 + 1, none⟩ = some (.int .i64 B.2)) :
    Calls Try.prog 82 #[.pointer (some ⟨b, 0, none⟩), .int .i64 i, .int .i64 j] w fun e w' =>
      e = .returned (.bool (decide (orInt (cmpInt A.1 B.1) (cmpInt A.2 B.2) < 0))) ∧ Only [] w w' := by
  obtain ⟨Ai, Ni⟩ := A
  obtain ⟨Aj, Nj⟩ := B
  simp only at ci0 ci1 cj0 cj1
  go_enter Try.func82, Try.ntmps82
  go_wp2
  go_region
  all_goals
    go_wp2
    refine region_tail 10 (by kernel_rfl) (by kernel_rfl) ?_
    simp only [List.take_succ_cons, List.take_zero, List.drop_succ_cons, List.drop_zero]
    repeat still_step
    still_call (cmp_Compare' _ _ _)
    repeat still_step
    still_call (cmp_Compare' _ _ _)
    refine wpStill_nil ?_
    go_wp2_with (go_at_call 86; refine (cmp_Or (cmpInt Ai Aj) (cmpInt Ni Nj) _ _ _ (by simp [go_sem]) (by simp [go_sem])).mono ?_; rintro e w' ⟨rfl, rfl⟩)
    go_ret
    refine ⟨rfl, ?_⟩
    exact (((((Only.refl _ _).alloc _).alloc _).alloc _).drew).drew

/-- Less of two places that are there: is the one's timer ahead of the other's? -/
theorem row_less {w : World} {hp bm : Nat} {most : Int} {sv : Value} {L : List Tm} (h : RowAt w hp bm most sv L) {i j : Nat} {a b : Tm} (ha : L[i]? = some a) (hb : L[j]? = some b) (I J : Int) (hI : I = i) (hJ : J = j) :
    Calls Try.prog 82 #[.pointer (some ⟨hp, 0, none⟩), .int .i64 I, .int .i64 J] w fun e w' => e = .returned (.bool (ltT a b)) ∧ Only [] w w' := by
  subst hI hJ
  have hil := (List.getElem?_eq_some_iff.1 ha).1
  have hjl := (List.getElem?_eq_some_iff.1 hb).1
  have hsl := h.sl
  cases hL : L.map encT with
  | nil => have := congrArg List.length hL; simp at this; simp [this] at hil
  | cons x xs =>
    generalize hX : L.map encT = X at hsl
    cases hsl with
    | nil => rw [hX] at hL; cases hL
    | row hr =>
      subst hX
      have hia : (L.map encT)[i]? = some (encT a) := by rw [List.getElem?_map, ha]; rfl
      have hjb : (L.map encT)[j]? = some (encT b) := by rw [List.getElem?_map, hb]; rfl
      rw [← lt_of_cmp]
      refine row_less_cells hp _ _ i j _ _ a b w h.c0 (lt_of_cell h.c0) hr.lt ?_ ?_ (hr.cell (f := 0) hia rfl) (hr.cell (f := 1) hia rfl) (hr.cell (f := 0) hjb rfl) (hr.cell (f := 1) hjb rfl)
      · simpa using hil
      · simpa using hjl

end Go.Proofs.Ytcppnmogdmpdbaa
