/- telemeter/heap's Heap: Due, walked: what is due comes out, in order, and is not there then. -/
import Derived.Test.YtcppnmogdmpdbaaIa
set_option linter.unusedVariables false
set_option linter.unusedSimpArgs false
namespace Go.Proofs.Ytcppnmogdmpdbaa
open Go.RowKit Go.Mk Go.Hp
attribute [-go_sem] Builtin.append_

def takeDue (now : Int) (S : List Tm) : List Tm := S.takeWhile (fun t => decide (t.1 ≤ now))
def restDue (now : Int) (S : List Tm) : List Tm := S.dropWhile (fun t => decide (t.1 ≤ now))

theorem due_split (now : Int) : ∀ (D S' : List Tm), (∀ t ∈ D, decide (t.1 ≤ now) = true) → isDue now S' = false → takeDue now (D ++ S') = D ∧ restDue now (D ++ S') = S'
  | [], [], _, _ => ⟨rfl, rfl⟩
  | [], t :: S', _, h => by
    simp only [isDue] at h
    simp [takeDue, restDue, List.takeWhile, List.dropWhile, h]
  | a :: D, S', hD, h => by
    have ha := hD a (by simp)
    have ih := due_split now D S' (fun t ht => hD t (by simp [ht])) h
    unfold takeDue restDue at *
    rw [List.cons_append, List.takeWhile_cons, List.dropWhile_cons, if_pos ha, if_pos ha, ih.1, ih.2]
    exact ⟨rfl, rfl⟩

set_option maxRecDepth 100000 in
set_option maxHeartbeats 2000000 in
theorem heap_Due {w : World} {hp : Nat} {F : List Nat} {most : Int} {S : List Tm} (h : HeapObj w hp F most S) (now : Int) :
    Calls Try.prog 22 #[.pointer (some ⟨hp, 0, none⟩), .int .i64 now] w fun e w' => ∃ ov, e = .returned ov ∧ SliceIs w' 30 2 ((takeDue now S).map encT) ov ∧
      HeapObj w' hp F most (restDue now S) ∧ Only F w w' ∧ (∀ b ∈ blockOf ov, w.heap.size ≤ b) := by
  have hmf : ∀ (fn : Fn) (first cap : Array Value) (w : World), (Instr.makeFunc fn first cap).run Try.prog w = .ok (.func fn first cap) w := fun _ _ _ _ => rfl
  have hlts := h.lts
  have Hlts := Lib.hid hlts
  have Hcap : Hid (S.length ≤ 5000) := by show S.length ≤ 5000; have := h.cap; have := h.top; omega
  have Hh := Lib.hid h
  clear h hlts
  go_enter Try.func22, Try.ntmps22
  go_wp2
  go_loopg [5, 8, 9] (S.length) (fun k ov _ _ wr => ∃ (D S' : List Tm), S'.length = k ∧ S = D ++ S' ∧ (∀ t ∈ D, decide (t.1 ≤ now) = true) ∧ SliceIs wr 30 2 (D.map encT) ov ∧ HeapObj wr hp F most S' ∧ Only F w wr ∧
    wr.cell? ⟨w.heap.size, 0, none⟩ = some (.pointer (some ⟨hp, 0, none⟩)) ∧ wr.cell? ⟨w.heap.size + 1, 0, none⟩ = some (.int .i64 now) ∧ (∀ b ∈ blockOf ov, w.heap.size + 2 ≤ b))
  case atStart =>
    refine ⟨[], S, rfl, rfl, by simp, .nil, Hh.out.only (((Only.refl [] _).alloc _).alloc _) (by simp), ((Only.refl _ _).alloc _).alloc _, ?_, ?_, by simp [blockOf]⟩
    · simp [go_sem]
    · simp [go_sem]
  case round =>
    obtain ⟨D, S', hk, hS, hD, hsl, hobj, ho, hb2, hb3, hfr⟩ := hrel
    have A : Aside (S'.length = gk ∧ S = D ++ S' ∧ (∀ t ∈ D, decide (t.1 ≤ now) = true) ∧ SliceIs wr 30 2 (D.map encT) _ ∧ HeapObj wr hp F most S' ∧ Only F w wr ∧ _ ∧ _) := ⟨hk, hS, hD, hsl, hobj, ho, hb2, hfr⟩
    have HcD := Lib.hid (heap_due1 hobj _ _ now hb2 hb3)
    have Hb3 := Lib.hid hb3
    clear hk hS hD hsl hobj ho hb2 hb3 hfr
    cases S' with
    | nil =>
      go_wp2_with fail
      refine HcD.out.mono ?_
      rintro e w1 ⟨rfl, ho1⟩
      simp only [isDue]
      go_wp2_with fail
      obtain ⟨hk, hS, hD, hsl, hobj, ho, hb2, hfr⟩ := A.out
      go_ret
      obtain ⟨ht, hr⟩ := due_split now D [] hD rfl
      rw [← hS] at ht hr
      refine ⟨_, rfl, ?_, ?_, ho.trans' ho1 (by simp), fun b hb => by have := hfr b hb; omega⟩
      · rw [ht]; exact hsl.only ho1 (by simp)
      · rw [hr]; exact hobj.only ho1 (by simp)
    | cons t S'' =>
      by_cases hd : t.1 ≤ now
      · have hd' : decide (t.1 ≤ now) = true := by simpa using hd
        go_wp2_with fail
        refine HcD.out.mono ?_
        rintro e w1 ⟨rfl, ho1⟩
        simp only [isDue, hd']
        go_wp2_with fail
        obtain ⟨hk, hS, hD, hsl, hobj, ho, hb2, hfr⟩ := A.out
        have A2 : Aside (_ ∧ _ ∧ _ ∧ _ ∧ _ ∧ _ ∧ _ ∧ _) := ⟨hk, hS, hD, hsl, hobj, ho, hb2, hfr⟩
        have cP := heap_Pop (hobj.only ho1 (by simp))
        clear hk hS hD hsl hobj ho hb2 hfr A
        refine cP.mono ?_
        rintro e w2 ⟨rfl, hobj2, ho2⟩
        simp only [firstV]
        have Hobj2 := Lib.hid hobj2
        clear hobj2 cP
        obtain ⟨hk, hS, hD, hsl, hobj, ho, hb2, hfr⟩ := A2.out
        have hFl := Hlts.out
        have o12 : Only F wr w2 := (ho1.mono (by simp)).trans ho2
        have hbF : ∀ b ∈ blockOf _, b ∉ F := fun b hb hF => by have := hfr b hb; have := hFl b hF; omega
        have hsl2 := hsl.only o12 hbF
        have oa : Only [] w2 ((w2.alloc (.cells #[.int .i64 t.1, .int .i64 t.2] 30)).alloc (.cells #[.int .i64 t.1, .int .i64 t.2] 30)) := ((Only.refl _ _).alloc _).alloc _
        obtain ⟨p, cap, hov⟩ := hsl2.form
        obtain ⟨i0, hi0, hz0, hz1, hz2⟩ := info_timer
        have hDl : D.length ≤ 5000 := by have := Hcap.out; rw [hS] at this; simp at this; omega
        obtain ⟨g, off, cap', w3, hap, hrow, o3, hg⟩ := run_append_is (P := Try.prog) (t := 39) (ty := 39) (a := ⟨w2.heap.size + 1, 0, none⟩) (m := 1) (c := 1) (news := [encT t]) Try.underlying39 hi0 hz0 hz1 hz2 rfl (hsl2.only oa (by simp)) rfl
          (by simp [encT]) (by
            intro j v hj
            simp only [encT, List.flatten_cons, List.flatten_nil, List.append_nil] at hj
            match j, hj with
            | 0, hj => simp only [List.getElem?_cons_zero, Option.some.injEq] at hj; subst hj; simp [go_sem]
            | 1, hj => simp only [List.getElem?_cons_succ, List.getElem?_cons_zero, Option.some.injEq] at hj; subst hj; simp [go_sem]) (by simp [encT, Value.oneCell']) (by omega) (by simp only [List.length_map, maxLen]; omega) (by simp only [List.length_map]; omega)
        rw [List.length_map] at hov hap
        have o23 : Only (blockOf _) w2 w3 := (oa.mono (by simp)).trans o3
        have A3 : Aside (_ ∧ _ ∧ _ ∧ _ ∧ _ ∧ _ ∧ _ ∧ _ ∧ _ ∧ _ ∧ _) := ⟨hk, hS, hD, ho, hb2, hfr, hrow, o23, hg, o12, hbF⟩
        clear hk hS hD hsl hobj ho hb2 hfr hFl hsl2 oa hi0 hz0 hz1 hz2 hDl hrow o3 hg o12 hbF o23 A2 ho1 ho2
        subst hov
        go_wp2_with fail
        obtain ⟨hk, hS, hD, ho, hb2, hfr, hrow, o23, hg, o12, hbF⟩ := A3.out
        have hFl := Hlts.out
        have hw2 : w.heap.size + 2 ≤ wr.heap.size := by have := lt_of_cell Hb3.out; omega
        have hw3 := o12.size
        have hFx : ∀ b ∈ F, b ∉ blockOf (.slice p D.length cap) := fun b hb hn => hbF b hn hb
        have hx0 : w.heap.size ∉ F := fun hF => by have := hFl _ hF; omega
        have hx1 : w.heap.size + 1 ∉ F := fun hF => by have := hFl _ hF; omega
        have hx2 : w.heap.size ∉ blockOf (.slice p D.length cap) := fun hn => by have := hfr _ hn; omega
        have hx3 : w.heap.size + 1 ∉ blockOf (.slice p D.length cap) := fun hn => by have := hfr _ hn; omega
        go_roundg S''.length
        case measure => simp only [List.length_cons] at hk; omega
        case rel =>
          refine ⟨D ++ [t], S'', rfl, by rw [hS]; simp, ?_, ?_, Hobj2.out.only o23 hFx, ?_, o23.cell (o12.cell hb2 hx0) hx2, o23.cell (o12.cell Hb3.out hx1) hx3, ?_⟩
          · intro x hx
            rcases List.mem_append.1 hx with hx | hx
            · exact hD x hx
            · simp only [List.mem_singleton] at hx; subst hx; exact hd'
          · have hR := SliceIs.row hrow
            rw [show (D.map encT ++ [encT t]).length = D.length + 1 by simp] at hR
            rw [List.map_append]
            exact hR
          · exact ⟨(o23.os.trans o12.os).trans ho.os, (o23.tape.trans o12.tape).trans ho.tape, (o23.output.trans o12.output).trans ho.output, Nat.le_trans ho.size (Nat.le_trans o12.size o23.size), fun b hb hn => by
              have h1 := ho.block b hb hn
              have hbw : b < wr.heap.size := by omega
              have h2 := o12.block b hbw hn
              have h3 := o23.block b (by omega) (fun hm => by have := hfr _ hm; omega)
              exact (h3.trans h2).trans h1⟩
          · intro b hb
            simp only [blockOf, List.mem_singleton] at hb
            subst hb
            rcases hg with hg | hg
            · exact hfr _ hg
            · have h9 : ((w2.alloc (.cells #[.int .i64 t.1, .int .i64 t.2] 30)).alloc (.cells #[.int .i64 t.1, .int .i64 t.2] 30)).heap.size = w2.heap.size + 2 := by simp
              rw [h9] at hg
              omega
      · have hd' : decide (t.1 ≤ now) = false := by simpa using hd
        go_wp2_with fail
        refine HcD.out.mono ?_
        rintro e w1 ⟨rfl, ho1⟩
        simp only [isDue, hd']
        go_wp2_with fail
        obtain ⟨hk, hS, hD, hsl, hobj, ho, hb2, hfr⟩ := A.out
        go_ret
        obtain ⟨ht, hr⟩ := due_split now D (t :: S'') hD hd'
        rw [← hS] at ht hr
        refine ⟨_, rfl, ?_, ?_, ho.trans' ho1 (by simp), fun b hb => by have := hfr b hb; omega⟩
        · rw [ht]; exact hsl.only ho1 (by simp)
        · rw [hr]; exact hobj.only ho1 (by simp)

end Go.Proofs.Ytcppnmogdmpdbaa
