/- telemeter/heap's Heap: First, Pop, Drop and Due, walked. -/
import Derived.Test.YtcppnmogdmpdbaaHy
set_option linter.unusedVariables false
set_option linter.unusedSimpArgs false
namespace Go.Proofs.Ytcppnmogdmpdbaa
open Go.RowKit Go.Mk Go.Hp
attribute [-go_sem] Builtin.append_

/-- What First and Pop tell: the first timer, if there is one. -/
def firstV : List Tm → Value
  | [] => .tuple #[.agg #[.int .i64 0, .int .i64 0], .bool false]
  | t :: _ => .tuple #[.agg #[.int .i64 t.1, .int .i64 t.2], .bool true]

/-- Where the first timer lies. -/
theorem HeapObj.head {w : World} {hp : Nat} {F : List Nat} {most : Int} {t : Tm} {S : List Tm} (h : HeapObj w hp F most (t :: S)) :
    ∃ g off n cap, g ∈ F ∧ w.cell? ⟨hp, 0, none⟩ = some (.slice (some ⟨g, off, none⟩) n cap) ∧ 0 < n ∧ w.cell? ⟨g, off, none⟩ = some (.int .i64 t.1) ∧ w.cell? ⟨g, off + 1, none⟩ = some (.int .i64 t.2) := by
  obtain ⟨bm, sv, L, hR, hH, hP, rfl⟩ := h.mem
  have hf := head_least hP h.sorted hH
  have hsl := hR.sl
  have c0 := hR.c0
  have hpos := (List.getElem?_eq_some_iff.1 hf).1
  generalize hX : L.map encT = X at hsl
  cases hsl with
  | nil => simp only [List.map_eq_nil_iff] at hX; subst hX; simp at hpos
  | @row _ g off cap hr =>
    subst hX
    have h0 : (L.map encT)[0]? = some (encT t) := by rw [List.getElem?_map, hf]; rfl
    have l0 := hr.cell (f := 0) h0 rfl
    have l1 := hr.cell (f := 1) h0 rfl
    simp only [Nat.zero_mul, Nat.add_zero] at l0 l1
    exact ⟨g, off, _, cap, by simp [blockOf], c0, by simpa using hpos, l0, l1⟩

set_option maxRecDepth 100000 in
set_option maxHeartbeats 1000000 in
theorem heap_First {w : World} {hp : Nat} {F : List Nat} {most : Int} {S : List Tm} (h : HeapObj w hp F most S) :
    Calls Try.prog 21 #[.pointer (some ⟨hp, 0, none⟩)] w fun e w' => e = .returned (firstV S) ∧ Only [] w w' := by
  have o1 : Only [] w (w.alloc (.cells #[.int .i64 0, .int .i64 0] 30)) := (Only.refl _ _).alloc _
  have cL := heap_len (h.only o1 (by simp))
  have HcL := Lib.hid cL
  clear cL
  cases S with
  | nil =>
    clear h
    go_enter Try.func21, Try.ntmps21
    go_wp2_with fail
    refine HcL.out.mono ?_
    rintro e w2 ⟨rfl, hw⟩
    subst hw
    go_wp2_with fail
    exact bodyPost_ret (v := firstV []) (by simp [results, Try.results21, go_sem, firstV]) rfl ⟨rfl, o1⟩
  | cons t S =>
    obtain ⟨g, off, n, cap, hg, c0, hn, l0, l1⟩ := h.head
    have hgl := h.lts g hg
    have hhl := lt_of_cell c0
    have hn' : (0 : Int) < n := by omega
    have hne : (((S.length : Int) + 1) == 0) = false := by rw [beq_eq_false_iff_ne]; omega
    have hne' : (((t :: S).length : Int) == 0) = false := by rw [beq_eq_false_iff_ne]; simp only [List.length_cons]; omega
    clear h hg
    go_enter Try.func21, Try.ntmps21
    go_wp2_with fail
    refine HcL.out.mono ?_
    rintro e w2 ⟨rfl, hw⟩
    subst hw
    go_wp2_with fail
    exact bodyPost_ret (v := firstV (t :: S)) (by simp [results, Try.results21, go_sem, firstV]) rfl ⟨rfl, (Only.refl _ _).alloc _⟩

set_option maxRecDepth 100000 in
set_option maxHeartbeats 1000000 in
theorem heap_Pop {w : World} {hp : Nat} {F : List Nat} {most : Int} {S : List Tm} (h : HeapObj w hp F most S) :
    Calls Try.prog 18 #[.pointer (some ⟨hp, 0, none⟩)] w fun e w' => e = .returned (firstV S) ∧ HeapObj w' hp F most S.tail ∧ Only F w w' := by
  have o1 : Only [] w (w.alloc (.cells #[.int .i64 0, .int .i64 0] 30)) := (Only.refl _ _).alloc _
  have h1 := h.only o1 (by simp)
  have HcL := Lib.hid (heap_len h1)
  cases S with
  | nil =>
    have Hh1 := Lib.hid h1
    clear h h1
    go_enter Try.func18, Try.ntmps18
    go_wp2_with fail
    refine HcL.out.mono ?_
    rintro e w2 ⟨rfl, hw⟩
    subst hw
    go_wp2_with fail
    exact bodyPost_ret (v := firstV []) (by simp [results, Try.results18, go_sem, firstV]) rfl ⟨rfl, Hh1.out, (Only.refl _ _).alloc _⟩
  | cons t S =>
    have Hh := Lib.hid h
    obtain ⟨bm, sv, L, hR, hH, hP, hF⟩ := h1.mem
    have hf := head_least hP h.sorted hH
    have hLlen : L.length ≤ 10000 := by have := hP.length_eq; have := h.cap; have := h.top; omega
    have HcT := Lib.hid (heap_take hR hH hf hLlen 0 rfl)
    have hlts : ∀ b ∈ hp :: bm :: blockOf sv, b < w.heap.size := fun b hb => h.lts b (hF ▸ hb)
    have Hlts := Lib.hid hlts
    have HP := Lib.hid hP
    have HF := Lib.hid hF
    have hne : (((S.length : Int) + 1) == 0) = false := by rw [beq_eq_false_iff_ne]; omega
    have hne' : (((t :: S).length : Int) == 0) = false := by rw [beq_eq_false_iff_ne]; simp only [List.length_cons]; omega
    clear h h1 hR hH hP hf hLlen hF hlts
    go_enter Try.func18, Try.ntmps18
    go_wp2_with fail
    refine HcL.out.mono ?_
    rintro e w2 ⟨rfl, hw⟩
    subst hw
    go_wp2_with fail
    refine HcT.out.mono ?_
    rintro e w1 ⟨rfl, sv1, L1, hR1, hH1, hP1, ho1, hb1⟩
    have hnb := ho1.newblk Hlts.out
    have k0 : w1.cell? ⟨w.heap.size, 0, none⟩ = some (.int .i64 0) := by rw [cell_of_blk hnb]; rfl
    have k1 : w1.cell? ⟨w.heap.size, 1, none⟩ = some (.int .i64 0) := by rw [cell_of_blk hnb]; rfl
    have f0 : w1.frozen? ⟨w.heap.size, 0, none⟩ = false := frozen_of_blk hnb
    have f1 : w1.frozen? ⟨w.heap.size, 1, none⟩ = false := frozen_of_blk hnb
    have hlt1 := lt_of_blk hnb
    have Hb1 := Lib.hid hb1
    clear hnb hb1
    go_wp2_with fail
    have g0 : ((w1.setCell ⟨w.heap.size, 0, none⟩ (.int .i64 t.1)).setCell ⟨w.heap.size, 1, none⟩ (.int .i64 t.2)).cell? ⟨w.heap.size, 0, none⟩ = some (.int .i64 t.1) := by
      rw [World.cell?_setCell_other _ _ _ _ (by simp)]; exact World.cell?_setCell_same _ _ _ k0
    have g1 : ((w1.setCell ⟨w.heap.size, 0, none⟩ (.int .i64 t.1)).setCell ⟨w.heap.size, 1, none⟩ (.int .i64 t.2)).cell? ⟨w.heap.size, 1, none⟩ = some (.int .i64 t.2) :=
      World.cell?_setCell_same _ _ _ (by rw [World.cell?_setCell_other _ _ _ _ (by simp)]; exact k1)
    have o2 : Only [w.heap.size] w1 ((w1.setCell ⟨w.heap.size, 0, none⟩ (.int .i64 t.1)).setCell ⟨w.heap.size, 1, none⟩ (.int .i64 t.2)) :=
      ((Only.refl _ _).setCell (.inl (by simp)) _).setCell (.inl (by simp)) _
    have hl := Hlts.out
    have hPS : L1.Perm S := (List.perm_cons t).1 (hP1.trans HP.out)
    refine bodyPost_ret (v := firstV (t :: S)) (by simp [results, Try.results18, go_sem, firstV, g0, g1]) rfl ⟨rfl, ⟨⟨bm, sv1, L1, hR1.only o2 ?_ ?_ ?_, hH1, hPS, ?_⟩, Hh.out.sorted.tail, ?_, ?_, Hh.out.top⟩, ?_⟩
    · have := hl hp (by simp); simp; omega
    · have := hl bm (by simp); simp; omega
    · intro b hb; rw [Hb1.out] at hb; have := hl b (by simp [hb]); simp; omega
    · rw [HF.out, Hb1.out]
    · have := Hh.out.nos; rw [List.map_cons, List.nodup_cons] at this; exact this.2
    · have := Hh.out.cap; simp only [List.length_cons, List.tail_cons] at *; omega
    · rw [HF.out]; exact (((Only.refl _ _).alloc _).trans ho1).trans' o2 (by simp)

end Go.Proofs.Ytcppnmogdmpdbaa
