/- Pop of a row of timers, walked: the last one is taken off. -/
import Derived.Test.YtcppnmogdmpdbaaHt
set_option linter.unusedVariables false
set_option linter.unusedSimpArgs false
namespace Go.Proofs.Ytcppnmogdmpdbaa
open Go.RowKit Go.Mk Go.Hp
attribute [-go_sem] Builtin.append_

set_option maxRecDepth 100000 in
set_option maxHeartbeats 1000000 in
theorem row_pop_cells (hp bm g off : Nat) (n cap : Nat) (At No : Int) (w w2 : World)
    (h0 : w.cell? ⟨hp, 0, none⟩ = some (.slice (some ⟨g, off, none⟩) (n + 1) cap))
    (h1 : w.cell? ⟨hp, 1, none⟩ = some (.map (some bm))) (hb : hp < w.heap.size) (hgl : g < w.heap.size) (hf : w.frozen? ⟨hp, 0, none⟩ = false)
    (hn : (n : Int) ≤ 1000000) (hc : n + 1 ≤ cap) (hc' : (n : Int) + 1 ≤ cap)
    (l0 : w.cell? ⟨g, off + n * 2, none⟩ = some (.int .i64 At)) (l1 : w.cell? ⟨g, off + n * 2 + 1, none⟩ = some (.int .i64 No))
    (e1 : ((w.setCell ⟨hp, 0, none⟩ (.slice (some ⟨g, off, none⟩) n n)).alloc (.cells #[.int .i64 At, .int .i64 No] 30)).cell? ⟨hp, 1, none⟩ = some (.map (some bm)))
    (e2 : ((w.setCell ⟨hp, 0, none⟩ (.slice (some ⟨g, off, none⟩) n n)).alloc (.cells #[.int .i64 At, .int .i64 No] 30)).cell? ⟨w.heap.size, 1, none⟩ = some (.int .i64 No))
    (hdel : (Builtin.delete_ #[95, 3] 0 #[.map (some bm), .int .i64 No]).run Try.prog ((w.setCell ⟨hp, 0, none⟩ (.slice (some ⟨g, off, none⟩) n n)).alloc (.cells #[.int .i64 At, .int .i64 No] 30)).drew = .ok (.tuple #[]) w2)
    (k0 : w2.cell? ⟨w.heap.size, 0, none⟩ = some (.int .i64 At)) (k1 : w2.cell? ⟨w.heap.size, 1, none⟩ = some (.int .i64 No)) :
    Calls Try.prog 83 #[.pointer (some ⟨hp, 0, none⟩)] w fun e w' =>
      e = .returned (.iface 30 (.agg #[.int .i64 At, .int .i64 No])) ∧ w' = w2 := by
  have hmi : ∀ v w, (Instr.makeInterface 30 v).run Try.prog w = .ok (.iface 30 v) w := fun v w => by
    simp [Instr.makeInterface, run_underlying Try.underlying30]
  generalize hW : (w.setCell ⟨hp, 0, none⟩ (.slice (some ⟨g, off, none⟩) n n)).alloc (.cells #[.int .i64 At, .int .i64 No] 30) = w1 at *
  have HW := Lib.hid hW
  clear hW
  go_enter Try.func83, Try.ntmps83
  go_wp2
  rw [HW.out]
  go_region
  all_goals go_wp2
  all_goals (go_ret; exact ⟨rfl, rfl⟩)


theorem PosIs.pop {ms ms' : List (Ent Int)} {L : List Tm} {t : Tm} (h : PosIs ms (L ++ [t]))
    (hg : ∀ k, getL k ms' = if t.2 = k then none else getL k ms) : PosIs ms' L := by
  have hlast : (L ++ [t])[L.length]? = some t := by simp
  refine ⟨fun i a ha => ?_, fun no v hv => ?_⟩
  · have hi := (List.getElem?_eq_some_iff.1 ha).1
    have ha' : (L ++ [t])[i]? = some a := by rw [List.getElem?_append_left hi]; exact ha
    rw [hg, if_neg (fun he => by have := h.inj hlast ha' he; omega)]
    exact h.there i a ha'
  · rw [hg] at hv
    by_cases he : t.2 = no
    · rw [if_pos he] at hv; cases hv
    · rw [if_neg he] at hv
      obtain ⟨i, a, ha, hn⟩ := h.only no v hv
      have hlt := (List.getElem?_eq_some_iff.1 ha).1
      simp only [List.length_append, List.length_cons, List.length_nil] at hlt
      by_cases hi : i < L.length
      · exact ⟨i, a, by rw [List.getElem?_append_left hi] at ha; exact ha, hn⟩
      · have : i = L.length := by omega
        subst this
        rw [hlast] at ha
        cases ha
        exact absurd hn he

theorem RowMem.dropLast {w : World} {e k : Nat} {xs : List (List Value)} {x : List Value} {g off cap : Nat} (h : RowMem w e k (xs ++ [x]) g off cap) : RowMem w e k xs g off xs.length := by
  obtain ⟨cur, hb, hc, hr⟩ := h.blk
  have hf := h.fits
  simp only [List.length_append, List.length_cons, List.length_nil] at hf
  have hmul : xs.length * k ≤ cap * k := Nat.mul_le_mul_right _ (by omega)
  exact ⟨fun y hy => h.wide y (by simp [hy]), ⟨cur, hb, by omega, fun i y f v hy hv => hr i y f v (by rw [List.getElem?_append_left (List.getElem?_eq_some_iff.1 hy).1]; exact hy) hv⟩, Nat.le_refl _, by have := h.top; omega⟩

/-- Pop: the last timer comes out. -/
theorem row_pop {w : World} {hp bm : Nat} {most : Int} {sv : Value} {L : List Tm} {t : Tm} (h : RowAt w hp bm most sv (L ++ [t])) (hlen : L.length ≤ 1000000) :
    Calls Try.prog 83 #[.pointer (some ⟨hp, 0, none⟩)] w fun e w' =>
      e = .returned (.iface 30 (.agg #[.int .i64 t.1, .int .i64 t.2])) ∧ ∃ sv', RowAt w' hp bm most sv' L ∧ Only (hp :: bm :: blockOf sv) w w' ∧ blockOf sv' = blockOf sv := by
  obtain ⟨ms, clock, hm, hpos⟩ := h.mp
  have hbh : bm ≠ hp := no_map_cells h.c0 hm.blk
  have hbs : bm ∉ blockOf sv := no_map_row h.sl hm.blk
  have hbl := lt_of_blk hm.blk
  have hhl := lt_of_cell h.c0
  have hsl := h.sl
  generalize hX : (L ++ [t]).map encT = X at hsl
  cases hsl with
  | nil => simp at hX
  | @row _ g off cap hr =>
    subst hX
    have hxl : ((L ++ [t]).map encT).length = L.length + 1 := by simp
    have hgl := hr.lt
    have hgh : g ≠ hp := by have := h.ap; simp only [blockOf, List.mem_singleton] at this; exact fun he => this he.symm
    have hgm : bm ≠ g := by simpa [blockOf] using hbs
    have hlast : ((L ++ [t]).map encT)[L.length]? = some (encT t) := by simp
    have l0 := hr.cell (f := 0) hlast rfl
    have l1 := hr.cell (f := 1) hlast rfl
    have hcap := hr.fits
    rw [hxl] at hcap
    have c0 := h.c0
    rw [hxl] at c0
    have o1 : Only [hp] w ((w.setCell ⟨hp, 0, none⟩ (.slice (some ⟨g, off, none⟩) L.length L.length)).alloc (.cells #[.int .i64 t.1, .int .i64 t.2] 30)).drew :=
      (((Only.refl _ _).setCell (.inl (by simp)) _).alloc _).drew
    have e0 : ((w.setCell ⟨hp, 0, none⟩ (.slice (some ⟨g, off, none⟩) L.length L.length)).alloc (.cells #[.int .i64 t.1, .int .i64 t.2] 30)).cell? ⟨hp, 0, none⟩ = some (.slice (some ⟨g, off, none⟩) L.length L.length) := by
      exact cell_alloc _ (World.cell?_setCell_same _ _ _ c0)
    have e1 : ((w.setCell ⟨hp, 0, none⟩ (.slice (some ⟨g, off, none⟩) L.length L.length)).alloc (.cells #[.int .i64 t.1, .int .i64 t.2] 30)).cell? ⟨hp, 1, none⟩ = some (.map (some bm)) := by
      exact cell_alloc _ (by rw [World.cell?_setCell_other _ _ _ _ (by simp)]; exact h.c1)
    have e2 : ((w.setCell ⟨hp, 0, none⟩ (.slice (some ⟨g, off, none⟩) L.length L.length)).alloc (.cells #[.int .i64 t.1, .int .i64 t.2] 30)).cell? ⟨hp, 2, none⟩ = some (.int .i64 most) := by
      exact cell_alloc _ (by rw [World.cell?_setCell_other _ _ _ _ (by simp)]; exact h.c2)
    have hfz : ∀ i, ((w.setCell ⟨hp, 0, none⟩ (.slice (some ⟨g, off, none⟩) L.length L.length)).alloc (.cells #[.int .i64 t.1, .int .i64 t.2] 30)).frozen? ⟨hp, i, none⟩ = false := fun i => by
      rw [frozen_alloc' _ (by simpa using hhl), World.frozen?_setCell]; exact h.fz i
    have k0 : ((w.setCell ⟨hp, 0, none⟩ (.slice (some ⟨g, off, none⟩) L.length L.length)).alloc (.cells #[.int .i64 t.1, .int .i64 t.2] 30)).cell? ⟨w.heap.size, 0, none⟩ = some (.int .i64 t.1) := by simp [go_sem]
    have k1 : ((w.setCell ⟨hp, 0, none⟩ (.slice (some ⟨g, off, none⟩) L.length L.length)).alloc (.cells #[.int .i64 t.1, .int .i64 t.2] 30)).cell? ⟨w.heap.size, 1, none⟩ = some (.int .i64 t.2) := by simp [go_sem]
    have hum : Try.prog.underlying 95 = some (.map 3 3) := by kernel_rfl
    have hui : Try.prog.underlying 3 = some (.int .i64) := by kernel_rfl
    obtain ⟨ms', hrun, hk', hb', ho', hget⟩ := run_delete_mem (ty := 0) hum (keyOk_int hui) (hm.only o1 (by simpa using hbh)) t.2 3
    have o2 : Only [bm] ((w.setCell ⟨hp, 0, none⟩ (.slice (some ⟨g, off, none⟩) L.length L.length)).alloc (.cells #[.int .i64 t.1, .int .i64 t.2] 30)).drew
      (ChangeMaps.setBlock ((w.setCell ⟨hp, 0, none⟩ (.slice (some ⟨g, off, none⟩) L.length L.length)).alloc (.cells #[.int .i64 t.1, .int .i64 t.2] 30)).drew bm (.map (ms'.map (Ent.mk' (Value.int .i64))).toArray clock)) := (Only.refl _ _).setBlock (.inl (by simp)) _
    refine (row_pop_cells hp bm g off L.length cap t.1 t.2 w _ c0 h.c1 hhl hgl (h.fz 0) (by omega) hcap (by omega) l0 l1 e1 k1 hrun (o2.cell k0 (by simp; omega)) (o2.cell k1 (by simp; omega))).mono ?_
    rintro e w' ⟨rfl, rfl⟩
    have hph : hp ∉ [bm] := by simpa using Ne.symm hbh
    have hrow : RowMem w 30 2 (L.map encT) g off L.length := by
      have := RowMem.dropLast (xs := L.map encT) (x := encT t) (by simpa using hr)
      simpa using this
    have hrow' := (hrow.only o1 (by simpa using hgh)).only o2 (by simpa using Ne.symm hgm)
    refine ⟨rfl, .slice (some ⟨g, off, none⟩) L.length L.length, ⟨o2.cell e0 hph, o2.cell e1 hph, o2.cell e2 hph, fun i => ?_, ?_, ?_, ms', clock, MapMem.put (o1.lt hbl) hk' hb' ho', hpos.pop hget⟩, ?_, rfl⟩
    · rw [World.frozen?_of_block (a := ⟨hp, i, none⟩) (o2.block hp (o1.lt hhl) hph)]; exact hfz i
    · have hR := SliceIs.row hrow'
      rwa [List.length_map] at hR
    · simpa [blockOf] using Ne.symm hgh
    · exact (o1.mono (by simp)).trans' o2 (by simp)

end Go.Proofs.Ytcppnmogdmpdbaa
