/- Package ctx, walked: the marks of a value. -/
import Derived.Test.YtfnbkcdcdeojfaaDoorCf
set_option linter.unusedVariables false
set_option linter.unusedSimpArgs false
namespace Go.Proofs.YtfnbkcdcdeojfaaDoor
open Go.RowKit Go.Mk Go.Cx
attribute [-go_sem] Builtin.append_

def mkArr (m : Mk) : Array Value := #[.bool m.hasT, .int .u64 (m.t : Int), .bool m.hasR, .int .u64 (m.r : Int)]

theorem str_cell {w : World} {l : List ByteArray} {g n c j : Nat} {x : ByteArray} (h : SliceIs w 9 1 (strs l) (.slice (some ⟨g, 0, none⟩) n c)) (hx : l[j]? = some x) : w.cell? ⟨g, j, none⟩ = some (.string x) := by
  generalize hX : strs l = Y at h
  generalize hV : Value.slice (some ⟨g, 0, none⟩) n c = V at h
  cases h with
  | nil => cases hV
  | @row _ g2 off cap hr =>
    obtain ⟨h6, _, _⟩ := Value.slice.inj hV
    cases h6
    subst hX
    have h1 := hr.cell (i := j) (f := 0) (x := [.string x]) (by unfold strs; rw [List.getElem?_map, hx]; rfl) rfl
    simpa using h1

section
variable {A : Option Mk} {mk : Mk} {p : List UInt8} {ok f : Bool}
theorem step_th (h1 : ok = true → A = some mk) (h2 : ok = false → A = none) (hf : f = (cutC 58 p).2.2) (hn : (cutC 58 p).1 = [116, 104]) {tv : Nat} {to : Bool} (hv : tv = thrV (cutC 58 p).2.1) (ho : to = thrOk (cutC 58 p).2.1) (ok' : Bool) (he : ok' = (ok && (f && (to && !mk.hasT)))) :
    (ok' = true → (A.bind fun m' => markOne m' p) = some { mk with hasT := true, t := tv }) ∧ (ok' = false → (A.bind fun m' => markOne m' p) = none) := by
  cases ok with
  | false =>
    rw [h2 rfl]
    simp only [Bool.false_and] at he
    subst he
    exact ⟨(fun h => by cases h), fun _ => rfl⟩
  | true =>
    rw [h1 rfl, Option.bind_some]
    unfold markOne
    rw [← hf, hn]
    cases f with
    | false =>
      simp only [Bool.false_and, Bool.and_false] at he
      subst he
      exact ⟨(fun h => by cases h), fun _ => rfl⟩
    | true =>
      rw [if_neg (by decide), if_pos rfl]
      unfold thrV at hv
      unfold thrOk at ho
      cases hq : thr (cutC 58 p).2.1 with
      | none =>
        rw [hq] at ho
        simp only [Option.isSome_none] at ho
        subst ho
        simp only [Bool.false_and, Bool.and_false, Bool.true_and] at he
        subst he
        refine ⟨(fun h => by cases h), fun _ => ?_⟩
        split <;> rfl
      | some n =>
        rw [hq] at ho hv
        simp only [Option.isSome_some, Option.getD_some] at ho hv
        subst ho; subst hv
        simp only [Bool.true_and] at he
        subst he
        cases hT : mk.hasT <;> simp
theorem step_rv (h1 : ok = true → A = some mk) (h2 : ok = false → A = none) (hf : f = (cutC 58 p).2.2) (hn : (cutC 58 p).1 = [114, 118]) {tv : Nat} {to : Bool} (hv : tv = hexV (cutC 58 p).2.1) (ho : to = drawnOk (cutC 58 p).2.1) (ok' : Bool) (he : ok' = (ok && (f && (to && !mk.hasR)))) :
    (ok' = true → (A.bind fun m' => markOne m' p) = some { mk with hasR := true, r := tv }) ∧ (ok' = false → (A.bind fun m' => markOne m' p) = none) := by
  cases ok with
  | false =>
    rw [h2 rfl]
    simp only [Bool.false_and] at he
    subst he
    exact ⟨(fun h => by cases h), fun _ => rfl⟩
  | true =>
    rw [h1 rfl, Option.bind_some]
    unfold markOne
    rw [← hf, hn]
    cases f with
    | false =>
      simp only [Bool.false_and, Bool.and_false] at he
      subst he
      exact ⟨(fun h => by cases h), fun _ => rfl⟩
    | true =>
      rw [if_neg (by decide), if_neg (by decide), if_pos rfl]
      unfold hexV at hv
      unfold drawnOk hexOk at ho
      unfold drawn
      cases hq : hexL (cutC 58 p).2.1 with
      | none =>
        rw [hq] at ho
        simp only [Option.isSome_none, Bool.false_and] at ho
        subst ho
        simp only [Bool.false_and, Bool.and_false, Bool.true_and] at he
        subst he
        refine ⟨(fun h => by cases h), fun _ => ?_⟩
        split
        · rfl
        · split <;> rfl
      | some n =>
        rw [hq] at ho hv
        simp only [Option.isSome_some, Option.getD_some, Bool.true_and] at ho hv
        subst hv
        by_cases hl : (cutC 58 p).2.1.length = 14
        · rw [decide_eq_true hl] at ho
          subst ho
          simp only [Bool.true_and] at he
          subst he
          rw [if_pos hl]
          cases hT : mk.hasR <;> simp
        · rw [decide_eq_false hl] at ho
          subst ho
          simp only [Bool.false_and, Bool.and_false, Bool.true_and] at he
          subst he
          rw [if_neg hl]
          refine ⟨(fun h => by cases h), fun _ => ?_⟩
          split <;> rfl
theorem step_no (h1 : ok = true → A = some mk) (h2 : ok = false → A = none) (hf : f = (cutC 58 p).2.2) (hn : (cutC 58 p).1 ≠ [116, 104]) (hn2 : (cutC 58 p).1 ≠ [114, 118]) (ok' : Bool) (he : ok' = (ok && f)) :
    (ok' = true → (A.bind fun m' => markOne m' p) = some mk) ∧ (ok' = false → (A.bind fun m' => markOne m' p) = none) := by
  cases ok with
  | false =>
    rw [h2 rfl]
    simp only [Bool.false_and] at he
    subst he
    exact ⟨(fun h => by cases h), fun _ => rfl⟩
  | true =>
    rw [h1 rfl, Option.bind_some]
    unfold markOne
    rw [← hf, if_neg hn, if_neg hn2]
    simp only [Bool.true_and] at he
    subst he
    cases ok' <;> simp
end

set_option maxRecDepth 100000 in
set_option maxHeartbeats 4000000 in
theorem marks_walk (s : ByteArray) (m : Int) (w : World) (hs : s.size ≤ 100000) (hm : w.cell? ⟨0, 0, none⟩ = some (.int .i64 m)) :
    Calls Tryd.prog 32 #[.string s] w fun e w' => ∃ (ok : Bool) (mk : Mk), e = .returned (.tuple #[.agg (mkArr mk), .bool ok]) ∧ (ok = true → marksL s.data.toList = some mk) ∧ (ok = false → marksL s.data.toList = none) ∧ Only [] w w' := by
  have Hm := Lib.hid hm
  have o1 := (Only.refl [] w).alloc (.cells #[.bool false, .int .u64 0, .bool false, .int .u64 0] 29)
  have B := heap_alloc_new w (.cells #[.bool false, .int .u64 0, .bool false, .int .u64 0] 29)
  have C := Lib.hid (split_walk s 59 m (w.alloc (.cells #[.bool false, .int .u64 0, .bool false, .int .u64 0] 29)) hs (o1.cell hm (by simp)))
  have O1 := Lib.hid o1
  have HB := Lib.hid B
  clear hm o1 B
  go_enter Tryd.func32, Tryd.ntmps32
  go_wp2_with fail
  generalize w.alloc (.cells #[.bool false, .int .u64 0, .bool false, .int .u64 0] 29) = w1 at *
  have hbw : w.heap.size = w.heap.size := rfl
  have hb0 : 0 < w.heap.size := lt_of_cell Hm.out
  have HW := Lib.hid hb0
  clear hbw hb0
  generalize hbk : w.heap.size = b at *
  refine C.out.mono ?_
  rintro e w2 ⟨g, l, rfl, h1, h2, h3, h4, h5⟩
  have H := Lib.hid (And.intro h1 (And.intro h2 (And.intro h3 (And.intro h4 h5))))
  have hl : (l.length : Int) ≤ 100001 := by
    have := congrArg List.length h1
    unfold dataL at this
    rw [List.length_map, splitC_length] at this
    have h6 := List.count_le_length (a := (59 : UInt8)) (l := s.data.toList)
    rw [len_data] at h6
    omega
  have O2 := Lib.hid (O1.out.trans h4)
  have HB2 := Lib.hid (h4.blk HB.out (by simp))
  have Hbk := Lib.hid hbk
  have HbL := Lib.hid (lt_of_blk HB.out)
  clear h1 h2 h3 h4 h5 C O1 HB hbk
  go_wp2_with fail
  go_loopw [3, 16] (fun okv iv wr => ∃ (i : Nat) (ok : Bool) (mk : Mk), iv = .int .i64 i ∧ i ≤ l.length ∧ okv = .bool ok ∧ (ok = true → marksA Mk.none ((dataL l).take i) = some mk) ∧ (ok = false → marksA Mk.none ((dataL l).take i) = none) ∧
    wr.heap[b]? = some (.cells (mkArr mk) 29 (0, 0)) ∧ Only [b] w2 wr) (fun _ iv _ => l.length - (intOf iv).toNat)
  case atStart => exact ⟨0, true, Mk.none, rfl, by omega, rfl, fun _ => rfl, (fun h => by cases h), HB2.out, Only.refl _ _⟩
  case round =>
    obtain ⟨i, ok, mk, rfl, hi, rfl, ht, hf, hB, ho⟩ := hrel
    by_cases hil : i < l.length
    · have g1 : decide (i < l.length) = true := decide_eq_true hil
      obtain ⟨x, hx⟩ : ∃ x, l[i]? = some x := ⟨_, List.getElem?_eq_getElem hil⟩
      have hgb : b ≠ g := by
        have h1 := H.out.2.2.2.2
        have h2 := HbL.out
        omega
      have hs2 := H.out.2.2.1.only ho (by simpa [blockOf] using hgb.symm)
      have cx := str_cell hs2 hx
      have hgl : g < wr.heap.size := hs2.lt g (by simp [blockOf])
      have hxs := H.out.2.1 x (List.mem_of_getElem? hx)
      have hbl := lt_of_blk hB
      have C := Lib.hid (cut_walk x 58 m wr (by omega) (ho.cell (O2.out.cell Hm.out (by simp)) (by have := HW.out; simp; omega)))
      have hstep : marksA Mk.none ((dataL l).take (i + 1)) = (marksA Mk.none ((dataL l).take i)).bind fun m' => markOne m' x.data.toList := by
        rw [List.take_add_one, show (dataL l)[i]? = some x.data.toList by unfold dataL; rw [List.getElem?_map, hx]; rfl]
        exact marksA_snoc _ _ _
      have Hstep := Lib.hid hstep
      have Ht := Lib.hid ht
      have Hf := Lib.hid hf
      have HB := Lib.hid hB
      have Ho := Lib.hid ho
      have Hx := Lib.hid hx
      clear hstep ht hf hB ho hx hs2
      go_wp2_with fail
      refine C.out.mono ?_
      rintro e w3 ⟨a, v, rfl, ha, hv, has, hvs, q, rfl⟩
      obtain ⟨f, hfl⟩ : ∃ f, f = (cutC 58 x.data.toList).2.2 := ⟨_, rfl⟩
      rw [← hfl]
      have Hcut := Lib.hid (And.intro ha (And.intro hv hfl))
      have r0 : wr.cell? ⟨b, 0, none⟩ = some (.bool mk.hasT) := by rw [cell_of_blk HB.out]; rfl
      have r1 : wr.cell? ⟨b, 1, none⟩ = some (.int .u64 mk.t) := by rw [cell_of_blk HB.out]; rfl
      have r2 : wr.cell? ⟨b, 2, none⟩ = some (.bool mk.hasR) := by rw [cell_of_blk HB.out]; rfl
      have r3 : wr.cell? ⟨b, 3, none⟩ = some (.int .u64 mk.r) := by rw [cell_of_blk HB.out]; rfl
      have fz : ∀ j, wr.frozen? ⟨b, j, none⟩ = false := fun j => frozen_of_blk HB.out
      have f0 := fz 0
      have f1 := fz 1
      have f2 := fz 2
      have f3 := fz 3
      have T1 := fun W => Lib.hid (thr_walk v W (by omega))
      have T2 := fun W => Lib.hid (drawn_walk v W (by omega))
      obtain ⟨hT, mt, hR, mr⟩ := mk
      simp only at r0 r1 r2 r3
      by_cases hn1 : a.data.toList = [116, 104]
      · have b1 : (a.toList == [116, 104]) = true := by rw [Lib.toList_data, hn1]; rfl
        obtain ⟨tv, htv⟩ : ∃ tv, tv = thrV v.data.toList := ⟨_, rfl⟩
        obtain ⟨to, hto⟩ : ∃ to, to = thrOk v.data.toList := ⟨_, rfl⟩
        have T1 := Lib.hid (thr_walk v (wr.drewN q) (by omega))
        rw [← htv, ← hto] at T1
        have S := Lib.hid (fun ok' he => step_th (tv := tv) (to := to) (ok' := ok') Ht.out Hf.out hfl (by rw [← ha]; exact hn1) (by rw [← hv]; exact htv) (by rw [← hv]; exact hto) he)
        rw [← Hstep.out] at S
        clear fz C ha hv hfl cx hn1 htv hto Ht Hf
        cases ok <;> cases f <;> cases to <;> cases hT
        all_goals
          go_wp2_with (go_at_call 47; refine T1.out.mono ?_; rintro e w' ⟨rfl, rfl⟩)
          go_roundw
          case rel => exact ⟨i + 1, _, ⟨true, tv, hR, mr⟩, by go_num, by omega, rfl, (S.out _ rfl).1, (S.out _ rfl).2, setCell_blk (setCell_blk HB.out), ((Ho.out.drewN _).setCell (.inl (by simp)) _).setCell (.inl (by simp)) _⟩
          case measure => simp [intOf]; omega
      have b1 : (a.toList == [116, 104]) = false := by rw [Lib.toList_data]; simpa using hn1
      by_cases hn2 : a.data.toList = [114, 118]
      · have b2 : (a.toList == [114, 118]) = true := by rw [Lib.toList_data, hn2]; rfl
        obtain ⟨tv, htv⟩ : ∃ tv, tv = hexV v.data.toList := ⟨_, rfl⟩
        obtain ⟨to, hto⟩ : ∃ to, to = drawnOk v.data.toList := ⟨_, rfl⟩
        have T1 := Lib.hid (drawn_walk v (wr.drewN q) (by omega))
        rw [← htv, ← hto] at T1
        have S := Lib.hid (fun ok' he => step_rv (tv := tv) (to := to) (ok' := ok') Ht.out Hf.out hfl (by rw [← ha]; exact hn2) (by rw [← hv]; exact htv) (by rw [← hv]; exact hto) he)
        rw [← Hstep.out] at S
        clear fz C ha hv hfl cx hn1 hn2 htv hto Ht Hf
        cases ok <;> cases f <;> cases to <;> cases hR
        all_goals
          go_wp2_with (go_at_call 48; refine T1.out.mono ?_; rintro e w' ⟨rfl, rfl⟩)
          go_roundw
          case rel => exact ⟨i + 1, _, ⟨hT, mt, true, tv⟩, by go_num, by omega, rfl, (S.out _ rfl).1, (S.out _ rfl).2, setCell_blk (setCell_blk HB.out), ((Ho.out.drewN _).setCell (.inl (by simp)) _).setCell (.inl (by simp)) _⟩
          case measure => simp [intOf]; omega
      · have b2 : (a.toList == [114, 118]) = false := by rw [Lib.toList_data]; simpa using hn2
        have S := Lib.hid (fun ok' he => step_no (ok' := ok') Ht.out Hf.out hfl (by rw [← ha]; exact hn1) (by rw [← ha]; exact hn2) he)
        rw [← Hstep.out] at S
        clear fz C ha hv hfl cx hn1 hn2 Ht Hf
        cases ok <;> cases f
        all_goals
          go_wp2_with fail
          go_roundw
          case rel => exact ⟨i + 1, _, ⟨hT, mt, hR, mr⟩, by go_num, by omega, rfl, (S.out _ rfl).1, (S.out _ rfl).2, HB.out, Ho.out.drewN _⟩
          case measure => simp [intOf]; omega
    · have g1 : decide (i < l.length) = false := decide_eq_false hil
      have hall : (dataL l).take i = splitC 59 s.data.toList := by
        rw [H.out.1]
        exact List.take_of_length_le (by rw [← H.out.1]; unfold dataL; rw [List.length_map]; omega)
      rw [hall] at ht hf
      have Ht := Lib.hid ht
      have Hf := Lib.hid hf
      have HB := Lib.hid hB
      have Ho := Lib.hid ho
      obtain ⟨hT, mt, hR, mr⟩ := mk
      have r0 : wr.cell? ⟨b, 0, none⟩ = some (.bool hT) := by rw [cell_of_blk HB.out]; rfl
      have r1 : wr.cell? ⟨b, 1, none⟩ = some (.int .u64 mt) := by rw [cell_of_blk HB.out]; rfl
      have r2 : wr.cell? ⟨b, 2, none⟩ = some (.bool hR) := by rw [cell_of_blk HB.out]; rfl
      have r3 : wr.cell? ⟨b, 3, none⟩ = some (.int .u64 mr) := by rw [cell_of_blk HB.out]; rfl
      have fz : ∀ j, wr.frozen? ⟨b, j, none⟩ = false := fun j => frozen_of_blk HB.out
      have f0 := fz 0
      have f1 := fz 1
      have f2 := fz 2
      have f3 := fz 3
      have hbl := lt_of_blk HB.out
      have hOk : Hid (∀ W, Only [b] wr W → Only [] w W) := Lib.hid (fun W hW => O2.out.trans' (Ho.out.trans hW) (fun x hx hlt => by
        rw [List.mem_singleton] at hx
        have := Hbk.out
        omega))
      clear ht hf hB ho fz hall
      go_wp2_with fail
      refine bodyPost_ret (v := .tuple #[.agg #[.bool hT, .int .u64 mt, .bool hR, .int .u64 mr], .bool ok]) (by simp [results, Tryd.results32, go_sem, r0, r1, r2, r3]) rfl ?_
      refine ⟨ok, ⟨hT, mt, hR, mr⟩, rfl, Ht.out, Hf.out, hOk.out _ ?_⟩
      exact (((((Only.refl _ _).setCell (.inl (by simp)) _).setCell (.inl (by simp)) _).setCell (.inl (by simp)) _).setCell (.inl (by simp)) _)

end Go.Proofs.YtfnbkcdcdeojfaaDoor
