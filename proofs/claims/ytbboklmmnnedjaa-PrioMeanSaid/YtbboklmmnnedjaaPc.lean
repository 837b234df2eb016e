/- Package prio, walked: Swap of a row of offers. -/
import Derived.Test.YtbboklmmnnedjaaPb
set_option linter.unusedVariables false
set_option linter.unusedSimpArgs false
namespace Go.Proofs.Ytbboklmmnnedjaa
open Go.RowKit Go.Mk Go.Pr
attribute [-go_sem] Builtin.append_

theorem RowMem.setO {w : World} {e : TypeId} {L : List Of} {g off cap : Nat} (h : RowMem w e 3 (L.map encO) g off cap) {i : Nat} (hi : i < L.length) (b : Of) :
    RowMem (((w.setCell ⟨g, off + i * 3, none⟩ (.int .u64 b.w)).setCell ⟨g, off + i * 3 + 1, none⟩ (.int .u64 b.d)).setCell ⟨g, off + i * 3 + 2, none⟩ (.int .i64 b.p)) e 3 ((L.set i b).map encO) g off cap := by
  have hx : (L.map encO)[i]? = some (encO L[i]) := by rw [List.getElem?_map, List.getElem?_eq_getElem hi]; rfl
  have h1 := h.setCell (f := 0) hx (by omega) (.int .u64 b.w)
  have hx1 : ((L.map encO).set i ((encO L[i]).set 0 (.int .u64 b.w)))[i]? = some ((encO L[i]).set 0 (.int .u64 b.w)) := by
    rw [List.getElem?_set_self (by simpa using hi)]
  have h2 := h1.setCell (f := 1) hx1 (by omega) (.int .u64 b.d)
  have hx2 : (((L.map encO).set i ((encO L[i]).set 0 (.int .u64 b.w))).set i (((encO L[i]).set 0 (.int .u64 b.w)).set 1 (.int .u64 b.d)))[i]? = some (((encO L[i]).set 0 (.int .u64 b.w)).set 1 (.int .u64 b.d)) := by
    rw [List.getElem?_set_self (by simpa using hi)]
  have h3 := h2.setCell (f := 2) hx2 (by omega) (.int .i64 b.p)
  have he : (((L.map encO).set i ((encO L[i]).set 0 (.int .u64 b.w))).set i (((encO L[i]).set 0 (.int .u64 b.w)).set 1 (.int .u64 b.d))).set i ((((encO L[i]).set 0 (.int .u64 b.w)).set 1 (.int .u64 b.d)).set 2 (.int .i64 b.p)) = (L.set i b).map encO := by
    rw [List.set_set, List.set_set, List.map_set]
    rfl
  rw [he] at h3
  exact h3

def swapW (w : World) (g off i j : Nat) (a b : Of) : World :=
  (((((w.setCell ⟨g, off + i * 3, none⟩ (.int .u64 b.w)).setCell ⟨g, off + i * 3 + 1, none⟩ (.int .u64 b.d)).setCell ⟨g, off + i * 3 + 2, none⟩ (.int .i64 b.p)).setCell ⟨g, off + j * 3, none⟩ (.int .u64 a.w)).setCell ⟨g, off + j * 3 + 1, none⟩ (.int .u64 a.d)).setCell ⟨g, off + j * 3 + 2, none⟩ (.int .i64 a.p)
theorem swapW_row {w : World} {e : TypeId} {L : List Of} {g off cap : Nat} (h : RowMem w e 3 (L.map encO) g off cap) {i j : Nat} (hi : i < L.length) (hj : j < L.length) (a b : Of) :
    RowMem (swapW w g off i j a b) e 3 ((swapL L i j a b).map encO) g off cap := RowMem.setO (RowMem.setO h hi b) (by simpa using hj) a
theorem swapW_only (w : World) (g off i j : Nat) (a b : Of) : Only [g] w (swapW w g off i j a b) :=
  ((((((Only.refl _ _).setCell (.inl (by simp)) _).setCell (.inl (by simp)) _).setCell (.inl (by simp)) _).setCell (.inl (by simp)) _).setCell (.inl (by simp)) _).setCell (.inl (by simp)) _

set_option maxRecDepth 100000 in
set_option maxHeartbeats 2000000 in
theorem swap_cells (bs os i j len cap : Nat) (A B : Of) (w : World)
    (hbs : bs < w.heap.size) (hi : (i : Int) < len) (hj : (j : Int) < len) (hij : i ≠ j)
    (f : ∀ k, w.frozen? ⟨bs, k, none⟩ = false)
    (ci0 : w.cell? ⟨bs, os + i * 3, none⟩ = some (.int .u64 A.w)) (ci1 : w.cell? ⟨bs, os + i * 3 + 1, none⟩ = some (.int .u64 A.d)) (ci2 : w.cell? ⟨bs, os + i * 3 + 2, none⟩ = some (.int .i64 A.p))
    (cj0 : w.cell? ⟨bs, os + j * 3, none⟩ = some (.int .u64 B.w)) (cj1 : w.cell? ⟨bs, os + j * 3 + 1, none⟩ = some (.int .u64 B.d)) (cj2 : w.cell? ⟨bs, os + j * 3 + 2, none⟩ = some (.int .i64 B.p)) :
    Calls Try.prog 85 #[.slice (some ⟨bs, os, none⟩) len cap, .int .i64 i, .int .i64 j] w fun e w' => e = .returned (.tuple #[]) ∧ Only [bs] w w' ∧ ∃ n, w' = (swapW w bs os i j A B).drewN n := by
  have hsw := swapW_only w bs os i j A B
  have hW : swapW w bs os i j A B = (((((w.setCell ⟨bs, os + i * 3, none⟩ (.int .u64 B.w)).setCell ⟨bs, os + i * 3 + 1, none⟩ (.int .u64 B.d)).setCell ⟨bs, os + i * 3 + 2, none⟩ (.int .i64 B.p)).setCell ⟨bs, os + j * 3, none⟩ (.int .u64 A.w)).setCell ⟨bs, os + j * 3 + 1, none⟩ (.int .u64 A.d)).setCell ⟨bs, os + j * 3 + 2, none⟩ (.int .i64 A.p) := rfl
  obtain ⟨Aw, Ad, Ap⟩ := A
  obtain ⟨Bw, Bd, Bp⟩ := B
  simp only at ci0 ci1 ci2 cj0 cj1 cj2 hW
  generalize swapW w bs os i j ⟨Aw, Ad, Ap⟩ ⟨Bw, Bd, Bp⟩ = w1 at *
  have HW := Lib.hid hW
  have HS := Lib.hid hsw
  clear hW hsw
  go_enter Try.func85, Try.ntmps85
  go_wp2_with fail
  go_region
  rw [← HW.out]
  go_wp2_with fail
  all_goals (go_end0; exact ⟨rfl, HS.out.drewN 1, 1, rfl⟩)

theorem swapL_mem {L : List Of} {i j : Nat} {a b : Of} (ha : L[i]? = some a) (hb : L[j]? = some b) (hij : i ≠ j) : ∀ o ∈ swapL L i j a b, o ∈ L := fun o ho => (swapL_perm ha hb hij).mem_iff.1 ho

theorem least_swap {w : World} {hp : Nat} {rest : List Value} {T : TypeId} {sv : Value} {L : List Of} (h : LeastAt w hp rest T sv L) {i j : Nat} {a b : Of} (ha : L[i]? = some a) (hb : L[j]? = some b) (hij : i ≠ j) (I J : Int) (hI : I = i) (hJ : J = j) :
    Calls Try.prog 85 #[sv, .int .i64 I, .int .i64 J] w fun e w' => e = .returned (.tuple #[]) ∧ LeastAt w' hp rest T sv (swapL L i j a b) ∧ Only (blockOf sv) w w' := by
  subst hI hJ
  obtain ⟨hblk, hsl, hfar, hok⟩ := h
  have hil := (List.getElem?_eq_some_iff.1 ha).1
  have hjl := (List.getElem?_eq_some_iff.1 hb).1
  generalize hX : L.map encO = X at hsl
  cases hsl with
  | nil => simp only [List.map_eq_nil_iff] at hX; subst hX; simp at hil
  | @row _ g off cap hr =>
    subst hX
    have hia : (L.map encO)[i]? = some (encO a) := by rw [List.getElem?_map, ha]; rfl
    have hjb : (L.map encO)[j]? = some (encO b) := by rw [List.getElem?_map, hb]; rfl
    refine (swap_cells g off i j _ cap a b w hr.lt (by simpa using hil) (by simpa using hjl) hij hr.frozen (hr.cell (f := 0) hia rfl) (hr.cell (f := 1) hia rfl) (hr.cell (f := 2) hia rfl) (hr.cell (f := 0) hjb rfl) (hr.cell (f := 1) hjb rfl) (hr.cell (f := 2) hjb rfl)).mono ?_
    rintro e w' ⟨rfl, ho, n, rfl⟩
    have hsr := swapW_row hr hil hjl a b
    refine ⟨rfl, ⟨ho.blk hblk hfar, ?_, hfar, fun o ho2 => hok o (swapL_mem ha hb hij o ho2)⟩, ho⟩
    have hR := SliceIs.row (hsr.only ((Only.refl [] _).drewN n) (by simp))
    have hlen : ((swapL L i j a b).map encO).length = (L.map encO).length := by simp [swapL_len]
    rw [hlen] at hR
    exact hR

end Go.Proofs.Ytbboklmmnnedjaa
