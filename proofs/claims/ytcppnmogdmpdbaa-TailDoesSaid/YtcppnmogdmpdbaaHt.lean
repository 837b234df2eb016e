/- Push and Pop of a row of timers, walked. -/
import Derived.Test.YtcppnmogdmpdbaaHs
import Derived.Test.YtcppnmogdmpdbaaMa
set_option linter.unusedVariables false
set_option linter.unusedSimpArgs false
namespace Go.Proofs.Ytcppnmogdmpdbaa
open Go.RowKit Go.Mk Go.Hp

attribute [-go_sem] Builtin.append_
theorem assert_timer (v : Value) (w : World) : (Instr.typeAssert (.iface 30 v) 20 30 true).run Try.prog w = .ok (.tuple #[v, .bool true]) w := by
  simp [Instr.typeAssert, run_underlying Try.underlying30]

set_option maxRecDepth 100000 in
set_option maxHeartbeats 1000000 in
theorem row_push_cells (hp bm : Nat) (p : Option Addr) (n cap : Nat) (At No : Int) (w w2 w3 : World) (p' : Option Addr) (n' cap' : Nat)
    (h0 : w.cell? ⟨hp, 0, none⟩ = some (.slice p n cap))
    (h1 : w.cell? ⟨hp, 1, none⟩ = some (.map (some bm))) (hb : hp < w.heap.size)
    (hmu : (Instr.mapUpdate 95 (.map (some bm)) (.int .i64 No) (.int .i64 n)).run Try.prog (w.alloc (.cells #[.int .i64 At, .int .i64 No] 30)).drew = .ok () w2)
    (g0 : w2.cell? ⟨hp, 0, none⟩ = some (.slice p n cap)) (k0 : w2.cell? ⟨w.heap.size, 0, none⟩ = some (.int .i64 At)) (k1 : w2.cell? ⟨w.heap.size, 1, none⟩ = some (.int .i64 No))
    (hap : (Builtin.append_ #[39, 39] 39 #[.slice p n cap, .slice (some ⟨w2.heap.size, 0, none⟩) 1 1]).run Try.prog (w2.alloc (.cells #[.int .i64 At, .int .i64 No] 30)).drew = .ok (.slice p' n' cap') w3)
    (hb2 : hp < w2.heap.size) (hbw : w.heap.size < w2.heap.size)
    (g3 : w3.cell? ⟨hp, 0, none⟩ = some (.slice p n cap)) (f3 : w3.frozen? ⟨hp, 0, none⟩ = false) :
    Calls Try.prog 84 #[.pointer (some ⟨hp, 0, none⟩), .iface 30 (.agg #[.int .i64 At, .int .i64 No])] w fun e w' =>
      e = .returned (.tuple #[]) ∧ w' = w3.setCell ⟨hp, 0, none⟩ (.slice p' n' cap') := by
  have hta := assert_timer
  go_enter Try.func84, Try.ntmps84
  go_wp2
  go_region
  all_goals go_wp2
  all_goals go_region
  all_goals go_wp2
  all_goals (go_end0; exact ⟨rfl, rfl⟩)


theorem RowAt.only {w w' : World} {hp bm : Nat} {most : Int} {sv : Value} {L : List Tm} {S : List Nat} (h : RowAt w hp bm most sv L) (ho : Only S w w') (h1 : hp ∉ S) (h2 : bm ∉ S) (h3 : ∀ b ∈ blockOf sv, b ∉ S) :
    RowAt w' hp bm most sv L := by
  obtain ⟨ms, clock, hm, hpos⟩ := h.mp
  refine ⟨ho.cell h.c0 h1, ho.cell h.c1 h1, ho.cell h.c2 h1, fun i => ?_, h.sl.only ho h3, h.ap, ms, clock, hm.only ho h2, hpos⟩
  rw [World.frozen?_of_block (a := ⟨hp, i, none⟩) (ho.block hp (lt_of_cell h.c0) h1)]
  exact h.fz i

theorem PosIs.push {ms ms' : List (Ent Int)} {L : List Tm} (h : PosIs ms L) {t : Tm} (hnew : ∀ (i : Nat) (a : Tm), L[i]? = some a → a.2 ≠ t.2)
    (hg : ∀ k, getL k ms' = if t.2 = k then some (.int .i64 L.length) else getL k ms) : PosIs ms' (L ++ [t]) := by
  refine ⟨fun i a ha => ?_, fun no v hv => ?_⟩
  · rw [hg]
    by_cases hi : i < L.length
    · rw [List.getElem?_append_left hi] at ha
      rw [if_neg (fun he => hnew i a ha he.symm)]
      exact h.there i a ha
    · have hlt := (List.getElem?_eq_some_iff.1 ha).1
      simp only [List.length_append, List.length_cons, List.length_nil] at hlt
      have he : i = L.length := by omega
      subst he
      simp only [List.getElem?_concat_length, Option.some.injEq] at ha
      subst ha
      rw [if_pos rfl]
  · rw [hg] at hv
    by_cases he : t.2 = no
    · exact ⟨L.length, t, by simp, he⟩
    · rw [if_neg he] at hv
      obtain ⟨i, a, ha, hn⟩ := h.only no v hv
      exact ⟨i, a, by rw [List.getElem?_append_left (List.getElem?_eq_some_iff.1 ha).1]; exact ha, hn⟩

theorem info_timer : ∃ i, Try.prog.info? 30 = some i ∧ i.zero = some (.agg #[.int .i64 0, .int .i64 0]) ∧ i.size = 2 ∧ i.bytes = 16 := by
  obtain ⟨i0, hi, hz0, hz1, hz2⟩ := info_parts (P := Try.prog) (e := 30) (z := .agg #[.int .i64 0, .int .i64 0]) (size := 2) (bytes := 16) (by kernel_rfl)
  exact ⟨i0, hi, hz0, hz1, hz2⟩

/-- Push of a timer whose number is not there: it stands at the end. -/
theorem row_push {w : World} {hp bm : Nat} {most : Int} {sv : Value} {L : List Tm} (h : RowAt w hp bm most sv L) (t : Tm) (hnew : ∀ (i : Nat) (a : Tm), L[i]? = some a → a.2 ≠ t.2) (hlen : L.length ≤ 1000000) :
    Calls Try.prog 84 #[.pointer (some ⟨hp, 0, none⟩), .iface 30 (.agg #[.int .i64 t.1, .int .i64 t.2])] w fun e w' =>
      e = .returned (.tuple #[]) ∧ ∃ sv', RowAt w' hp bm most sv' (L ++ [t]) ∧ Only (hp :: bm :: blockOf sv) w w' ∧ (∀ b ∈ blockOf sv', b ∈ blockOf sv ∨ w.heap.size ≤ b) := by
  obtain ⟨ms, clock, hm, hpos⟩ := h.mp
  obtain ⟨p, cap, hsv⟩ := h.sl.form
  rw [List.length_map] at hsv
  have hbh : bm ≠ hp := no_map_cells h.c0 hm.blk
  have hbs : bm ∉ blockOf sv := no_map_row h.sl hm.blk
  have hbl := lt_of_blk hm.blk
  have hhl := lt_of_cell h.c0
  -- the map is told
  have o1 : Only [] w (w.alloc (.cells #[.int .i64 t.1, .int .i64 t.2] 30)).drew := ((Only.refl _ _).alloc _).drew
  have hum : Try.prog.underlying 95 = some (.map 3 3) := by kernel_rfl
  have hui : Try.prog.underlying 3 = some (.int .i64) := by kernel_rfl
  obtain ⟨ms', clock', hrun, hk', hb', ho', hget⟩ := run_mapUpdate_mem hum (keyOk_int hui) (hm.only o1 (by simp)) t.2 (.int .i64 L.length)
  generalize hw1 : (w.alloc (.cells #[.int .i64 t.1, .int .i64 t.2] 30)).drew = w1 at *
  have hk0 : w1.cell? ⟨w.heap.size, 0, none⟩ = some (.int .i64 t.1) := by rw [← hw1]; simp [go_sem]
  have hk1 : w1.cell? ⟨w.heap.size, 1, none⟩ = some (.int .i64 t.2) := by rw [← hw1]; simp [go_sem]
  have o2 : Only [bm] w1 (ChangeMaps.setBlock w1 bm (.map (ms'.map (Ent.mk' (Value.int .i64))).toArray clock')) := (Only.refl _ _).setBlock (.inl (by simp)) _
  have hm2 : MapMem (ChangeMaps.setBlock w1 bm (.map (ms'.map (Ent.mk' (Value.int .i64))).toArray clock')) (Value.int .i64) bm ms' clock' := MapMem.put (o1.lt hbl) hk' hb' ho'
  generalize hw2 : ChangeMaps.setBlock w1 bm (.map (ms'.map (Ent.mk' (Value.int .i64))).toArray clock') = w2 at *
  -- the timer is laid behind the others
  have o3 : Only [] w2 (w2.alloc (.cells #[.int .i64 t.1, .int .i64 t.2] 30)).drew := ((Only.refl _ _).alloc _).drew
  have o12 : Only [bm] w w2 := (o1.mono (by simp)).trans o2
  have o13 : Only [bm] w (w2.alloc (.cells #[.int .i64 t.1, .int .i64 t.2] 30)).drew := o12.trans' o3 (by simp)
  have hs3 := h.sl.only o13 (fun b hb hn => hbs (by simp only [List.mem_singleton] at hn; subst hn; exact hb))
  obtain ⟨i0, hi0, hz0, hz1, hz2⟩ := info_timer
  obtain ⟨g, off, cap', w3, hap, hrow, o4, hg⟩ := run_append_is (P := Try.prog) (t := 39) (ty := 39) (a := ⟨w2.heap.size, 0, none⟩) (m := 1) (c := 1) (news := [encT t]) Try.underlying39 hi0 hz0 hz1 hz2 rfl hs3 rfl
    (by simp [encT]) (by
      intro j v hj
      simp only [encT, List.flatten_cons, List.flatten_nil, List.append_nil] at hj
      match j, hj with
      | 0, hj => simp only [List.getElem?_cons_zero, Option.some.injEq] at hj; subst hj; simp [go_sem]
      | 1, hj => simp only [List.getElem?_cons_succ, List.getElem?_cons_zero, Option.some.injEq] at hj; subst hj; simp [go_sem]) (by simp [encT, Value.oneCell']) (by omega) (by simp only [List.length_map, maxLen]; omega) (by simp only [List.length_map]; omega)
  simp only [List.length_map] at hap
  have hg' : g ≠ hp := by
    rcases hg with hg | hg
    · rintro rfl; exact h.ap hg
    · have := o13.lt hhl; omega
  have o14 : Only (bm :: blockOf sv) w w3 := (o13.mono (by simp)).trans' o4 (by intro x hx _; exact List.mem_cons_of_mem _ hx)
  have hph : hp ∉ bm :: blockOf sv := by simp only [List.mem_cons, not_or]; exact ⟨Ne.symm hbh, h.ap⟩
  have c0 := o14.cell h.c0 hph
  have c1 := o14.cell h.c1 hph
  have c2 := o14.cell h.c2 hph
  have hfz : ∀ i, w3.frozen? ⟨hp, i, none⟩ = false := fun i => by
    rw [World.frozen?_of_block (a := ⟨hp, i, none⟩) (o14.block hp hhl hph)]; exact h.fz i
  have g0 := o12.cell h.c0 (by simpa using Ne.symm hbh)
  have g1 := o12.cell h.c1 (by simpa using Ne.symm hbh)
  have hsb : bm ≠ w.heap.size := by omega
  have k0 := o2.cell hk0 (by simpa using Ne.symm hsb)
  have k1 := o2.cell hk1 (by simpa using Ne.symm hsb)
  subst hsv
  rw [← hw1] at hrun
  refine (row_push_cells hp bm p L.length cap t.1 t.2 w w2 w3 _ _ _ h.c0 h.c1 hhl hrun g0 k0 k1 hap (o12.lt hhl) (by rw [← hw1] at o2; exact o2.lt (by simp)) c0 (hfz 0)).mono ?_
  rintro e w' ⟨rfl, rfl⟩
  have o5 : Only [hp] w3 (w3.setCell ⟨hp, 0, none⟩ (.slice (some ⟨g, off, none⟩) (L.length + 1) cap')) := (Only.refl _ _).setCell (.inl (by simp)) _
  have hmap : (L ++ [t]).map encT = L.map encT ++ [encT t] := by simp
  refine ⟨rfl, .slice (some ⟨g, off, none⟩) (L.length + 1) cap', ⟨World.cell?_setCell_same _ _ _ c0, ?_, ?_, fun i => ?_, ?_, ?_, ms', clock', ?_, hpos.push hnew hget⟩, ?_, ?_⟩
  · rw [World.cell?_setCell_other _ _ _ _ (by simp)]; exact c1
  · rw [World.cell?_setCell_other _ _ _ _ (by simp)]; exact c2
  · rw [World.frozen?_setCell]; exact hfz i
  · have hR := SliceIs.row (hrow.only o5 (by simpa using hg'))
    rw [show (L.map encT ++ [encT t]).length = L.length + 1 by simp] at hR
    rw [hmap]
    exact hR
  · simpa [blockOf] using Ne.symm hg'
  · exact ((hm2.only o3 (by simp)).only o4 hbs).only o5 (by simpa using hbh)
  · exact (o14.mono (by intro x hx _; exact List.mem_cons_of_mem _ hx)).trans' o5 (by simp)
  · intro b hb
    simp only [blockOf, List.mem_singleton] at hb
    subst hb
    rcases hg with hg | hg
    · exact .inl hg
    · exact .inr (Nat.le_trans o13.size hg)

end Go.Proofs.Ytcppnmogdmpdbaa
