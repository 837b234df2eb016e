/- Package prio, walked: Push and Pop of a row of offers. -/
import Derived.Test.YtbboklmmnnedjaaPc
set_option linter.unusedVariables false
set_option linter.unusedSimpArgs false
namespace Go.Proofs.Ytbboklmmnnedjaa
open Go.RowKit Go.Mk Go.Pr
attribute [-go_sem] Builtin.append_

theorem assert_offer (v : Value) (w : World) : (Instr.typeAssert (.iface 56 v) 20 56 true).run Try.prog w = .ok (.tuple #[v, .bool true]) w := by
  simp [Instr.typeAssert, run_underlying Try.underlying56]
theorem info_offer : ∃ i, Try.prog.info? 56 = some i ∧ i.zero = some (.agg #[.int .u64 0, .int .u64 0, .int .i64 0]) ∧ i.size = 3 ∧ i.bytes = 24 := by
  obtain ⟨i0, hi, hz0, hz1, hz2⟩ := info_parts (P := Try.prog) (e := 56) (z := .agg #[.int .u64 0, .int .u64 0, .int .i64 0]) (size := 3) (bytes := 24) (by kernel_rfl)
  exact ⟨i0, hi, hz0, hz1, hz2⟩

set_option maxRecDepth 100000 in
set_option maxHeartbeats 1000000 in
theorem push_cells (hp : Nat) (p : Option Addr) (n cap : Nat) (W D P : Nat) (w w3 : World) (p' : Option Addr) (n' cap' : Nat)
    (h0 : w.cell? ⟨hp, 0, none⟩ = some (.slice p n cap)) (hb : hp < w.heap.size)
    (hap : (Builtin.append_ #[52, 52] 52 #[.slice p n cap, .slice (some ⟨w.heap.size + 1, 0, none⟩) 1 1]).run Try.prog ((w.alloc (.cells #[.int .u64 W, .int .u64 D, .int .i64 P] 56)).alloc (.cells #[.int .u64 W, .int .u64 D, .int .i64 P] 56)).drew = .ok (.slice p' n' cap') w3)
    (g3 : w3.cell? ⟨hp, 0, none⟩ = some (.slice p n cap)) (f3 : w3.frozen? ⟨hp, 0, none⟩ = false) :
    Calls Try.prog 88 #[.pointer (some ⟨hp, 0, none⟩), .iface 56 (.agg #[.int .u64 W, .int .u64 D, .int .i64 P])] w fun e w' =>
      e = .returned (.tuple #[]) ∧ w' = w3.setCell ⟨hp, 0, none⟩ (.slice p' n' cap') := by
  have hta := assert_offer
  go_enter Try.func88, Try.ntmps88
  go_wp2_with fail
  go_region
  all_goals go_wp2_with fail
  all_goals (go_end0; exact ⟨rfl, rfl⟩)

/-- Push: one offer more, at the end. -/
theorem least_push {w : World} {hp : Nat} {rest : List Value} {T : TypeId} {sv : Value} {L : List Of} (h : LeastAt w hp rest T sv L) (o : Of) (hok : OfOk o) (hlen : L.length ≤ 1000000) :
    Calls Try.prog 88 #[.pointer (some ⟨hp, 0, none⟩), .iface 56 (ofV o)] w fun e w' =>
      e = .returned (.tuple #[]) ∧ ∃ sv', LeastAt w' hp rest T sv' (L ++ [o]) ∧ Only (hp :: blockOf sv) w w' ∧ (∀ b ∈ blockOf sv', b ∈ blockOf sv ∨ w.heap.size ≤ b) := by
  obtain ⟨p, cap, hsv⟩ := h.sl.form
  rw [List.length_map] at hsv
  have hhl := lt_of_cell h.c0
  have o1 : Only [] w ((w.alloc (.cells #[.int .u64 o.w, .int .u64 o.d, .int .i64 o.p] 56)).alloc (.cells #[.int .u64 o.w, .int .u64 o.d, .int .i64 o.p] 56)).drew := (((Only.refl _ _).alloc _).alloc _).drew
  have hs1 := h.sl.only o1 (by simp)
  obtain ⟨i0, hi0, hz0, hz1, hz2⟩ := info_offer
  obtain ⟨g, off, cap', w3, hap, hrow, o4, hg⟩ := run_append_is (P := Try.prog) (t := 52) (ty := 52) (a := ⟨w.heap.size + 1, 0, none⟩) (m := 1) (c := 1) (news := [encO o]) Try.underlying52 hi0 hz0 hz1 hz2 rfl hs1 rfl
    (by simp [encO]) (by
      intro j v hj
      simp only [encO, List.flatten_cons, List.flatten_nil, List.append_nil] at hj
      match j, hj with
      | 0, hj => simp only [List.getElem?_cons_zero, Option.some.injEq] at hj; subst hj; simp [go_sem]
      | 1, hj => simp only [List.getElem?_cons_succ, List.getElem?_cons_zero, Option.some.injEq] at hj; subst hj; simp [go_sem]
      | 2, hj => simp only [List.getElem?_cons_succ, List.getElem?_cons_zero, Option.some.injEq] at hj; subst hj; simp [go_sem]) (by simp [encO, Value.oneCell']) (by omega) (by simp only [List.length_map, maxLen]; omega) (by simp only [List.length_map]; omega)
  simp only [List.length_map] at hap
  have hg' : g ≠ hp := by
    rcases hg with hg | hg
    · rintro rfl; exact h.far hg
    · have := o1.lt hhl; omega
  have o14 : Only (blockOf sv) w w3 := (o1.mono (by simp)).trans' o4 (by intro x hx _; exact hx)
  have hb3 := o14.blk h.blk h.far
  have c0 : w3.cell? ⟨hp, 0, none⟩ = some sv := by rw [cell_of_blk hb3]; simp
  have hfz : w3.frozen? ⟨hp, 0, none⟩ = false := frozen_of_blk hb3
  have h0 := h.c0
  subst hsv
  refine (push_cells hp p L.length cap o.w o.d o.p w w3 _ _ _ h0 hhl hap c0 hfz).mono ?_
  rintro e w' ⟨rfl, rfl⟩
  have o5 : Only [hp] w3 (w3.setCell ⟨hp, 0, none⟩ (.slice (some ⟨g, off, none⟩) (L.length + 1) cap')) := (Only.refl _ _).setCell (.inl (by simp)) _
  have hmap : (L ++ [o]).map encO = L.map encO ++ [encO o] := by simp
  refine ⟨rfl, .slice (some ⟨g, off, none⟩) (L.length + 1) cap', ⟨?_, ?_, ?_, ?_⟩, ?_, ?_⟩
  · rw [setCell_blk hb3]; simp
  · have hR := SliceIs.row (hrow.only o5 (by simpa using hg'))
    rw [show (L.map encO ++ [encO o]).length = L.length + 1 by simp] at hR
    rw [hmap]
    exact hR
  · simpa [blockOf] using Ne.symm hg'
  · intro x hx
    rcases List.mem_append.1 hx with hx | hx
    · exact h.ok x hx
    · rw [List.mem_singleton] at hx; subst hx; exact hok
  · exact (o14.mono (by intro x hx _; exact List.mem_cons_of_mem _ hx)).trans' o5 (by simp)
  · intro b hb
    simp only [blockOf, List.mem_singleton] at hb
    subst hb
    rcases hg with hg | hg
    · exact .inl hg
    · exact .inr (Nat.le_trans o1.size hg)

set_option maxRecDepth 100000 in
set_option maxHeartbeats 1000000 in
theorem pop_cells (hp g off n cap : Nat) (W D P : Nat) (w : World)
    (h0 : w.cell? ⟨hp, 0, none⟩ = some (.slice (some ⟨g, off, none⟩) (n + 1) cap)) (hb : hp < w.heap.size) (hgl : g < w.heap.size) (hf : w.frozen? ⟨hp, 0, none⟩ = false)
    (hn : (n : Int) ≤ 1000000) (hc' : (n : Int) ≤ cap)
    (l0 : w.cell? ⟨g, off + n * 3, none⟩ = some (.int .u64 W)) (l1 : w.cell? ⟨g, off + n * 3 + 1, none⟩ = some (.int .u64 D)) (l2 : w.cell? ⟨g, off + n * 3 + 2, none⟩ = some (.int .i64 P)) :
    Calls Try.prog 87 #[.pointer (some ⟨hp, 0, none⟩)] w fun e w' =>
      e = .returned (.iface 56 (.agg #[.int .u64 W, .int .u64 D, .int .i64 P])) ∧ w' = (w.setCell ⟨hp, 0, none⟩ (.slice (some ⟨g, off, none⟩) n cap)).alloc (.cells #[.int .u64 W, .int .u64 D, .int .i64 P] 56) := by
  have hmi : ∀ v w, (Instr.makeInterface 56 v).run Try.prog w = .ok (.iface 56 v) w := fun v w => by
    simp [Instr.makeInterface, run_underlying Try.underlying56]
  go_enter Try.func87, Try.ntmps87
  go_wp2_with fail
  go_ret
  exact ⟨rfl, rfl⟩

theorem RowMem.pre {w : World} {e k : Nat} {xs : List (List Value)} {x : List Value} {g off cap : Nat} (h : RowMem w e k (xs ++ [x]) g off cap) : RowMem w e k xs g off cap := by
  obtain ⟨cur, hb, hc, hr⟩ := h.blk
  have hf := h.fits
  simp only [List.length_append, List.length_cons, List.length_nil] at hf
  exact ⟨fun y hy => h.wide y (by simp [hy]), ⟨cur, hb, hc, fun i y f v hy hv => hr i y f v (by rw [List.getElem?_append_left (List.getElem?_eq_some_iff.1 hy).1]; exact hy) hv⟩, by omega, h.top⟩

/-- Pop: the last offer comes out. -/
theorem least_pop {w : World} {hp : Nat} {rest : List Value} {T : TypeId} {sv : Value} {L : List Of} {o : Of} (h : LeastAt w hp rest T sv (L ++ [o])) (hlen : L.length ≤ 1000000) :
    Calls Try.prog 87 #[.pointer (some ⟨hp, 0, none⟩)] w fun e w' =>
      e = .returned (.iface 56 (ofV o)) ∧ ∃ sv', LeastAt w' hp rest T sv' L ∧ Only [hp] w w' ∧ blockOf sv' = blockOf sv := by
  obtain ⟨hblk, hsl, hfar, hok⟩ := h
  have hhl := lt_of_blk hblk
  have hfz : w.frozen? ⟨hp, 0, none⟩ = false := frozen_of_blk hblk
  generalize hX : (L ++ [o]).map encO = X at hsl
  cases hsl with
  | nil => simp at hX
  | @row _ g off cap hr =>
    subst hX
    have hlast : ((L ++ [o]).map encO)[L.length]? = some (encO o) := by simp
    have hmap : (L ++ [o]).map encO = L.map encO ++ [encO o] := by simp
    have hll : ((L ++ [o]).map encO).length = L.length + 1 := by simp
    have hfit := hr.fits
    have c0 : w.cell? ⟨hp, 0, none⟩ = some (.slice (some ⟨g, off, none⟩) (L.length + 1) cap) := by rw [cell_of_blk hblk, hll]; simp
    refine (pop_cells hp g off L.length cap o.w o.d o.p w c0 hhl hr.lt hfz (by omega) (by omega) (hr.cell (f := 0) hlast rfl) (hr.cell (f := 1) hlast rfl) (hr.cell (f := 2) hlast rfl)).mono ?_
    rintro e w' ⟨rfl, rfl⟩
    have o1 : Only [hp] w (w.setCell ⟨hp, 0, none⟩ (.slice (some ⟨g, off, none⟩) L.length cap)) := (Only.refl _ _).setCell (.inl (by simp)) _
    have hgh : g ≠ hp := fun e => hfar (by simp [blockOf, e])
    refine ⟨rfl, .slice (some ⟨g, off, none⟩) L.length cap, ⟨?_, ?_, hfar, fun x hx => hok x (by simp [hx])⟩, o1.alloc _, rfl⟩
    · have h1 := setCell_blk (i := 0) (v := .slice (some ⟨g, off, none⟩) L.length cap) hblk
      have h2 := ((Only.refl [] _).alloc (.cells #[.int .u64 o.w, .int .u64 o.d, .int .i64 o.p] 56)).blk h1 (by simp)
      rw [h2]; simp
    · rw [hmap] at hr
      have hR := SliceIs.row (((RowMem.pre hr).only o1 (by simpa using hgh)).only ((Only.refl [] _).alloc (.cells #[.int .u64 o.w, .int .u64 o.d, .int .i64 o.p] 56)) (by simp))
      rw [List.length_map] at hR
      exact hR

end Go.Proofs.Ytbboklmmnnedjaa
