/- Swap of a row of timers, walked: the two timers have changed places, and the map of places says so. -/
import Derived.Test.YtcppnmogdmpdbaaHr
set_option linter.unusedVariables false
set_option linter.unusedSimpArgs false
namespace Go.Proofs.Ytcppnmogdmpdbaa
open Go.RowKit Go.Mk Go.Hp

theorem RowMem.setT {w : World} {e : TypeId} {L : List Tm} {g off cap : Nat} (h : RowMem w e 2 (L.map encT) g off cap) {i : Nat} (hi : i < L.length) (b : Tm) :
    RowMem ((w.setCell ⟨g, off + i * 2, none⟩ (.int .i64 b.1)).setCell ⟨g, off + i * 2 + 1, none⟩ (.int .i64 b.2)) e 2 ((L.set i b).map encT) g off cap := by
  have hx : (L.map encT)[i]? = some (encT L[i]) := by rw [List.getElem?_map, List.getElem?_eq_getElem hi]; rfl
  have h1 := h.setCell (f := 0) hx (by omega) (.int .i64 b.1)
  have hx1 : ((L.map encT).set i ((encT L[i]).set 0 (.int .i64 b.1)))[i]? = some ((encT L[i]).set 0 (.int .i64 b.1)) := by
    rw [List.getElem?_set_self (by simpa using hi)]
  have h2 := h1.setCell (f := 1) hx1 (by omega) (.int .i64 b.2)
  have he : ((L.map encT).set i ((encT L[i]).set 0 (.int .i64 b.1))).set i (((encT L[i]).set 0 (.int .i64 b.1)).set 1 (.int .i64 b.2)) = (L.set i b).map encT := by
    rw [List.set_set, List.map_set]
    rfl
  rw [he] at h2
  exact h2

def swapW (w : World) (g off i j : Nat) (a b : Tm) : World :=
  (((w.setCell ⟨g, off + i * 2, none⟩ (.int .i64 b.1)).setCell ⟨g, off + i * 2 + 1, none⟩ (.int .i64 b.2)).setCell ⟨g, off + j * 2, none⟩ (.int .i64 a.1)).setCell ⟨g, off + j * 2 + 1, none⟩ (.int .i64 a.2)

theorem swapW_row {w : World} {e : TypeId} {L : List Tm} {g off cap : Nat} (h : RowMem w e 2 (L.map encT) g off cap) {i j : Nat} (hi : i < L.length) (hj : j < L.length) (a b : Tm) :
    RowMem (swapW w g off i j a b) e 2 ((swapL L i j a b).map encT) g off cap := RowMem.setT (RowMem.setT h hi b) (by simpa using hj) a

theorem swapW_only (w : World) (g off i j : Nat) (a b : Tm) : Only [g] w (swapW w g off i j a b) :=
  ((((Only.refl _ _).setCell (.inl (by simp)) _).setCell (.inl (by simp)) _).setCell (.inl (by simp)) _).setCell (.inl (by simp)) _

theorem swapL_get {L : List Tm} {i j : Nat} {a b : Tm} (ha : L[i]? = some a) (hb : L[j]? = some b) (hij : i ≠ j) :
    (swapL L i j a b)[i]? = some b ∧ (swapL L i j a b)[j]? = some a ∧ ∀ k, k ≠ i → k ≠ j → (swapL L i j a b)[k]? = L[k]? := by
  have hil := (List.getElem?_eq_some_iff.1 ha).1
  have hjl := (List.getElem?_eq_some_iff.1 hb).1
  refine ⟨?_, ?_, fun k h1 h2 => ?_⟩
  · unfold swapL; rw [List.getElem?_set_ne (Ne.symm hij), List.getElem?_set_self hil]
  · unfold swapL; rw [List.getElem?_set_self (by simpa using hjl)]
  · unfold swapL; rw [List.getElem?_set_ne (Ne.symm h2), List.getElem?_set_ne (Ne.symm h1)]

theorem mem_of_getL {κ : Type} [DecidableEq κ] {k : κ} {ms : List (Ent κ)} {v : Value} (h : getL k ms = some v) : ∃ (p : Nat) (m : Ent κ), ms[p]? = some m ∧ m.key = k ∧ m.val = v := by
  rw [← findL_getL k ms 0] at h
  cases hf : findL k ms 0 with
  | none => rw [hf] at h; cases h
  | some q =>
    rw [hf] at h
    simp only [Option.map_some, Option.some.injEq] at h
    obtain ⟨m, _, hm, hk, hv⟩ := findL_spec k ms 0 q.1 q.2 hf
    exact ⟨_, m, hm, hk, hv.trans h⟩

theorem PosIs.inj {ms : List (Ent Int)} {L : List Tm} (h : PosIs ms L) {i j : Nat} {a b : Tm} (ha : L[i]? = some a) (hb : L[j]? = some b) (he : a.2 = b.2) : i = j := by
  have h1 := h.there i a ha
  have h2 := h.there j b hb
  rw [he, h2] at h1
  simp only [Option.some.injEq, Value.int.injEq, true_and, Int.natCast_inj] at h1
  exact h1.symm

theorem PosIs.swap {ms ms' : List (Ent Int)} {L : List Tm} (h : PosIs ms L) {i j : Nat} {a b : Tm} (ha : L[i]? = some a) (hb : L[j]? = some b) (hij : i ≠ j)
    (hg : ∀ k, getL k ms' = if a.2 = k then some (.int .i64 j) else if b.2 = k then some (.int .i64 i) else getL k ms) : PosIs ms' (swapL L i j a b) := by
  obtain ⟨hi', hj', ho⟩ := swapL_get ha hb hij
  have hab : a.2 ≠ b.2 := fun he => hij (h.inj ha hb he)
  refine ⟨fun k t hk => ?_, fun no v hv => ?_⟩
  · rw [hg]
    by_cases hki : k = i
    · subst hki; rw [hi'] at hk; cases hk
      rw [if_neg hab, if_pos rfl]
    · by_cases hkj : k = j
      · subst hkj; rw [hj'] at hk; cases hk
        rw [if_pos rfl]
      · rw [ho k hki hkj] at hk
        rw [if_neg (fun he => hki (h.inj hk ha he.symm)), if_neg (fun he => hkj (h.inj hk hb he.symm))]
        exact h.there k t hk
  · rw [hg] at hv
    by_cases h1 : a.2 = no
    · exact ⟨j, a, hj', h1⟩
    · rw [if_neg h1] at hv
      by_cases h2 : b.2 = no
      · exact ⟨i, b, hi', h2⟩
      · rw [if_neg h2] at hv
        obtain ⟨k, t, hk, ht⟩ := h.only no v hv
        refine ⟨k, t, ?_, ht⟩
        rw [ho k (by rintro rfl; rw [ha] at hk; cases hk; exact h1 ht) (by rintro rfl; rw [hb] at hk; cases hk; exact h2 ht)]
        exact hk

set_option maxRecDepth 100000 in
set_option maxHeartbeats 2000000 in
theorem row_swap_cells (b bs os bm i j len cap : Nat) (A B : Tm) (ms : List (Ent Int)) (clock p q : Nat) (ma mb : Ent Int) (w : World)
    (h0 : w.cell? ⟨b, 0, none⟩ = some (.slice (some ⟨bs, os, none⟩) len cap))
    (h1 : w.cell? ⟨b, 1, none⟩ = some (.map (some bm)))
    (hb : b < w.heap.size) (hbs : bs < w.heap.size) (hne : bs ≠ b) (hnm : bm ≠ bs)
    (hi : (i : Int) < len) (hj : (j : Int) < len) (hij : i ≠ j)
    (f : ∀ k, w.frozen? ⟨bs, k, none⟩ = false)
    (ci0 : w.cell? ⟨bs, os + i * 2, none⟩ = some (.int .i64 A.1)) (ci1 : w.cell? ⟨bs, os + i * 2 + 1, none⟩ = some (.int .i64 A.2))
    (cj0 : w.cell? ⟨bs, os + j * 2, none⟩ = some (.int .i64 B.1)) (cj1 : w.cell? ⟨bs, os + j * 2 + 1, none⟩ = some (.int .i64 B.2))
    (di1 : (swapW w bs os i j A B).cell? ⟨bs, os + i * 2 + 1, none⟩ = some (.int .i64 B.2)) (dj1 : (swapW w bs os i j A B).cell? ⟨bs, os + j * 2 + 1, none⟩ = some (.int .i64 A.2))
    (hm : MapMem w (Value.int .i64) bm ms clock) (hp : ms[p]? = some mb) (hq : ms[q]? = some ma) (hkb : mb.key = B.2) (hka : ma.key = A.2) (hpq : p ≠ q) :
    Calls Try.prog 85 #[.pointer (some ⟨b, 0, none⟩), .int .i64 i, .int .i64 j] w fun e w' =>
      e = .returned (.tuple #[]) ∧ w' = ChangeMaps.setBlock (ChangeMaps.setBlock (swapW w bs os i j A B).drew.drew bm (.map ((setV ms p (.int .i64 i)).map (Ent.mk' (Value.int .i64))).toArray clock)) bm
        (.map ((setV (setV ms p (.int .i64 i)) q (.int .i64 j)).map (Ent.mk' (Value.int .i64))).toArray clock) := by
  have hsw := swapW_only w bs os i j A B
  have e0 := hsw.cell h0 (by simpa using Ne.symm hne)
  have e1 := hsw.cell h1 (by simpa using Ne.symm hne)
  have hm' := (hm.only hsw (by simpa using hnm)).drew.drew
  have hum : Try.prog.underlying 95 = some (.map 3 3) := by kernel_rfl
  have hui : Try.prog.underlying 3 = some (.int .i64) := by kernel_rfl
  have r1 := run_mapEntry_mem hum (keyOk_int hui) hm' hp
  have r2 := run_entryStore_mem (P := Try.prog) (t := 95) hm' hp (.int .i64 i)
  have hm2 := hm'.setV p (.int .i64 i)
  have hq2 : (setV ms p (.int .i64 i))[q]? = some ma := by
    unfold setV; rw [List.getElem?_modify]; simp [hpq, hq]
  have r3 := run_mapEntry_mem hum (keyOk_int hui) hm2 hq2
  have r4 := run_entryStore_mem (P := Try.prog) (t := 95) hm2 hq2 (.int .i64 j)
  rw [hkb] at r1
  rw [hka] at r3
  have hW : swapW w bs os i j A B = (((w.setCell ⟨bs, os + i * 2, none⟩ (.int .i64 B.1)).setCell ⟨bs, os + i * 2 + 1, none⟩ (.int .i64 B.2)).setCell ⟨bs, os + j * 2, none⟩ (.int .i64 A.1)).setCell ⟨bs, os + j * 2 + 1, none⟩ (.int .i64 A.2) := rfl
  obtain ⟨Ai, Ni⟩ := A
  obtain ⟨Aj, Nj⟩ := B
  simp only at ci0 ci1 cj0 cj1 di1 dj1 r1 r2 r3 r4 hW
  generalize hG : swapW w bs os i j (Ai, Ni) (Aj, Nj) = w1 at *
  have HW := Lib.hid hW
  have hsz : w1.heap.size = w.heap.size := by rw [hW]; simp
  have hb1 : b < w1.heap.size := by omega
  have hbs1 : bs < w1.heap.size := by omega
  generalize hG2 : ChangeMaps.setBlock w1.drew.drew bm (.map ((setV ms p (.int .i64 i)).map (Ent.mk' (Value.int .i64))).toArray clock) = w2 at *
  generalize hG3 : ChangeMaps.setBlock w2 bm (.map ((setV (setV ms p (.int .i64 i)) q (.int .i64 j)).map (Ent.mk' (Value.int .i64))).toArray clock) = w3 at *
  generalize mb.val = vb at *
  generalize ma.val = va at *
  generalize mb.born = nb at *
  generalize ma.born = na at *
  clear hW hG hG2 hG3 hm hm' hm2 hsw hp hq hq2 hum hui hsz hkb hka hpq hnm
  go_enter Try.func85, Try.ntmps85
  go_wp2
  go_region
  rw [← HW.out]
  clear HW ci0 ci1 cj0 cj1 f h0 h1 hb hbs
  go_wp2
  go_region
  all_goals go_wp2
  all_goals (go_end0; exact ⟨rfl, rfl⟩)

end Go.Proofs.Ytcppnmogdmpdbaa
