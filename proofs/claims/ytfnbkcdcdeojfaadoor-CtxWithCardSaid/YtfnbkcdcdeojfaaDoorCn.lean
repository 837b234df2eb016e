/- Package ctx, walked: written. -/
import Derived.Test.YtfnbkcdcdeojfaaDoorCl
import Derived.Deep.DeepCutAuto
set_option linter.unusedVariables false
set_option linter.unusedSimpArgs false
namespace Go.Proofs.YtfnbkcdcdeojfaaDoor
open Go.RowKit Go.Mk Go.Cx
attribute [-go_sem] Builtin.append_

theorem info_str : ∃ i, Tryd.prog.info? 9 = some i ∧ i.zero = some (.string ⟨#[]⟩) ∧ i.size = 1 ∧ i.bytes = 16 := by
  obtain ⟨i0, hi, hz0, hz1, hz2⟩ := info_parts (P := Tryd.prog) (e := 9) (z := .string ⟨#[]⟩) (size := 1) (bytes := 16) (by kernel_rfl)
  exact ⟨i0, hi, hz0, hz1, hz2⟩
/-- One text more at a row's end. -/
theorem str_append {w : World} {l : List ByteArray} {sv : Value} (h : SliceIs w 9 1 (strs l) sv) (hl : l.length ≤ 100000) (x : ByteArray) :
    ∃ g off cap' w', (Builtin.append_ #[53, 53] 53 #[sv, .slice (some ⟨w.heap.size, 0, none⟩) 1 1]).run Tryd.prog (w.alloc (.cells #[.string x] 9)) = .ok (.slice (some ⟨g, off, none⟩) (l.length + 1) cap') w' ∧
      SliceIs w' 9 1 (strs (l ++ [x])) (.slice (some ⟨g, off, none⟩) (l.length + 1) cap') ∧ Only (blockOf sv) w w' ∧ (g ∈ blockOf sv ∨ w.heap.size ≤ g) := by
  have oW : Only [] w (w.alloc (.cells #[.string x] 9)) := (Only.refl [] _).alloc _
  have hBn := heap_alloc_new w (.cells #[.string x] 9)
  obtain ⟨i0, hi0, hz0, hz1, hz2⟩ := info_str
  have hll : (strs l).length = l.length := by unfold strs; rw [List.length_map]
  obtain ⟨g, off, cap', w', hap, hrm, o6, hg⟩ := run_append_is (P := Tryd.prog) (t := 53) (ty := 53) (a := ⟨w.heap.size, 0, none⟩) (m := 1) (c := 1) (news := [[Value.string x]]) Tryd.underlying53 hi0 hz0 hz1 hz2 rfl
    (h.only oW (by simp)) rfl (by simp) (by
      intro j v hj
      have hadd : (⟨w.heap.size, 0, none⟩ : Addr).add j = ⟨w.heap.size, j, none⟩ := by unfold Addr.add; split <;> simp_all
      rw [hadd]
      refine (cell_of_blk hBn).trans ?_
      rw [show (#[Value.string x] : Array Value) = [Value.string x].toArray from rfl, List.getElem?_toArray]
      simpa using hj) (by simp [Value.oneCell']) (by omega) (by rw [hll]; simp only [maxLen]; omega) (by rw [hll]; omega)
  rw [hll] at hap
  refine ⟨g, off, cap', w', hap, ?_, (oW.mono (by simp)).trans o6, hg.imp id (fun h => Nat.le_trans oW.size h)⟩
  have h3 := SliceIs.row hrm
  rw [List.length_append, hll, List.length_singleton] at h3
  have : strs (l ++ [x]) = strs l ++ [[Value.string x]] := by unfold strs; rw [List.map_append]; rfl
  rw [this]
  exact h3
theorem join_walk {w : World} {l : List ByteArray} {sv : Value} (h : SliceIs w 9 1 (strs l) sv) (c : UInt8) (hl : l.length ≤ 100000) (hj : (Lib.join (dataL l) [c]).length ≤ 100000000) :
    Calls Tryd.prog 24 #[sv, .string ⟨#[c]⟩] w fun e w' => e = .returned (.string ⟨(Lib.join (dataL l) [c]).toArray⟩) ∧ Only [] w w' := by
  generalize hX : strs l = Y at h
  cases h with
  | nil =>
    have : l = [] := by unfold strs at hX; simpa using hX
    subst this
    refine (Tryd.strings_Join_none none 0 ⟨#[c]⟩ w).mono ?_
    rintro e w' ⟨rfl, rfl⟩
    exact ⟨rfl, Only.refl _ _⟩
  | @row _ g off cap hr =>
    subst hX
    have hll : (strs l).length = l.length := by unfold strs; rw [List.length_map]
    rw [hll]
    refine (Tryd.strings_Join g off cap l ⟨#[c]⟩ w (fun j x hx => ?_) hr.lt (by omega) (by rw [← hll]; exact hr.fits) (Nat.le_trans hj (by omega))).mono ?_
    · have h1 := hr.cell (i := j) (f := 0) (x := [.string x]) (by unfold strs; rw [List.getElem?_map, hx]; rfl) rfl
      simpa using h1
    · rintro e w' ⟨rfl, hw⟩
      exact ⟨rfl, Only.ofBelow hw (Nat.le_refl _) _⟩

theorem isEmpty_data {s : ByteArray} (h : s.data.toList = []) : s.toList.isEmpty = true := by rw [Lib.toList_data, h]; rfl
theorem ne_isEmpty {s : ByteArray} (h : s.data.toList ≠ []) : s.toList.isEmpty = false := by
  rw [Lib.toList_data]
  cases hq : s.data.toList with
  | nil => exact absurd hq h
  | cons => rfl
theorem trimRightB_len (l : List UInt8) (c : UInt8) : (Lib.trimRightB l c).length ≤ l.length := by
  unfold Lib.trimRightB
  first
    | (rw [List.length_reverse]; exact Nat.le_trans (List.dropWhile_suffix _).length_le (by simp))
    | simp
theorem cat_data (a b : ByteArray) : (a ++ b).data.toList = a.data.toList ++ b.data.toList := by simp

def tPart (m : Mk) : List (List UInt8) := if m.hasT then [[116, 104, 58] ++ shortL m.t] else []
def rPart (m : Mk) : List (List UInt8) := if m.hasR then [[114, 118, 58] ++ hexedL m.r 14] else []
theorem writtenL_eq (m : Mk) : writtenL m = Lib.join (tPart m ++ rPart m) [59] := rfl
theorem shortL_len (n : Nat) : (shortL n).length ≤ 14 := by
  unfold shortL
  split
  · decide
  · exact Nat.le_trans (trimRightB_len _ _) (by rw [hexedL_length]; omega)

def boxMk (m : Mk) : Obj := .cells (mkArr m) 29 (0, 0)
def MidW (w : World) (m : Mk) (s3 : Value) (wx : World) : Prop :=
  ∃ p c L, s3 = .slice p L.length c ∧ SliceIs wx 9 1 (strs L) (.slice p L.length c) ∧ dataL L = tPart m ∧ Only [] w wx ∧ (∀ b' ∈ blockOf (.slice p L.length c), w.heap.size < b') ∧ wx.heap[w.heap.size]? = some (boxMk m)

theorem written_len (m : Mk) : (writtenL m).length ≤ 100000000 := by
  rw [writtenL_eq]
  have h1 := shortL_len m.t
  have h2 := hexedL_length m.r 14
  unfold tPart rPart
  cases m.hasT <;> cases m.hasR <;> simp [Lib.join, h2] <;> omega

set_option maxRecDepth 100000 in
set_option maxHeartbeats 8000000 in
theorem written_walk (m : Mk) (w : World) (ht : m.t < big) (hr : m.r < big) :
    Calls Tryd.prog 22 #[.agg (mkArr m)] w fun e w' => e = .returned (.string ⟨(writtenL m).toArray⟩) ∧ Only [] w w' := by
  have oa := (Only.refl [] w).alloc (.cells (mkArr m) 29)
  have HB := Lib.hid (heap_alloc_new w (.cells (mkArr m) 29))
  have Oa := Lib.hid oa
  obtain ⟨A, hA⟩ : ∃ A : ByteArray, A = ⟨(hexedL m.t 14).toArray⟩ := ⟨_, rfl⟩
  obtain ⟨B, hB⟩ : ∃ B : ByteArray, B = ⟨(hexedL m.r 14).toArray⟩ := ⟨_, rfl⟩
  obtain ⟨X, hX⟩ : ∃ X : ByteArray, X = ⟨(Lib.trimRightB A.data.toList 48).toArray⟩ := ⟨_, rfl⟩
  have CT : Hid (∀ W, Calls Tryd.prog 27 #[.int .u64 m.t, .int .i64 14] W fun e w' => e = .returned (.string A) ∧ Only [] W w') := Lib.hid (fun W => hA ▸ hexed_walk m.t 14 W ht (by omega))
  have CR : Hid (∀ W, Calls Tryd.prog 27 #[.int .u64 m.r, .int .i64 14] W fun e w' => e = .returned (.string B) ∧ Only [] W w') := Lib.hid (fun W => hB ▸ hexed_walk m.r 14 W hr (by omega))
  have sA : A.size = 14 := by rw [hA]; exact hexedL_length m.t 14
  have sB : B.size = 14 := by rw [hB]; exact hexedL_length m.r 14
  have CX : Hid (∀ W, Calls Tryd.prog 33 #[.string A, .string ⟨#[48]⟩] W fun e w' => e = .returned (.string X) ∧ w' = W) := Lib.hid (fun W => hX ▸ Tryd.strings_TrimRight_one A 48 (by decide) W (by omega))
  have hXd : X.data.toList = Lib.trimRightB (hexedL m.t 14) 48 := by rw [hX, hA]
  have sX : X.size ≤ 14 := by rw [← len_data, hXd]; exact Nat.le_trans (trimRightB_len _ _) (by rw [hexedL_length]; omega)
  have hBd : B.data.toList = hexedL m.r 14 := by rw [hB]
  have HX := Lib.hid hXd
  have HBd := Lib.hid hBd
  clear hA hB hX hXd hBd oa ht hr
  obtain ⟨hT, t, hR, r⟩ := m
  simp only at CT CR HX HBd
  simp only [mkArr] at *
  go_enter Tryd.func22, Tryd.ntmps22
  go_upto_if 6 with fail
  go_cut [3] (fun s3 wx => MidW w ⟨hT, t, hR, r⟩ s3 wx)
  case first =>
    cases hT with
    | false =>
      go_wp2_with fail
      go_meet
      exact ⟨none, 0, [], rfl, .nil, rfl, Oa.out, by simp [blockOf], HB.out⟩
    | true =>
      go_wp2_with fail
      refine Calls.mono (CT.out _) ?_
      rintro e w2 ⟨rfl, o2⟩
      have O2 := Lib.hid (Oa.out.trans o2)
      have HB2 := Lib.hid (o2.blk HB.out (by simp))
      have r2 : w2.cell? ⟨w.heap.size, 2, none⟩ = some (.bool hR) := by rw [cell_of_blk HB2.out]; rfl
      clear o2
      go_wp2_with fail
      refine Calls.mono (CX.out _) ?_
      rintro e w2 ⟨rfl, rfl⟩
      by_cases hx : X.data.toList = []
      · have hie := isEmpty_data hx
        have hsh : shortL t = [48] := by unfold shortL; rw [if_pos (by rw [← HX.out]; exact hx)]
        have Hx := Lib.hid hsh
        clear hx hsh
        obtain ⟨g, off, cap', w4, hap, hsl, o4, hg⟩ := str_append (w := w2) (l := []) .nil (by simp) (⟨#[116, 104, 58]⟩ ++ ⟨#[48]⟩)
        simp only [List.length_nil, Nat.zero_add, List.nil_append] at hap hsl
        have HS := Lib.hid (And.intro hsl (And.intro o4 hg))
        clear hsl o4 hg
        go_wp2_with fail
        go_meet
        obtain ⟨hsl, o4, hg⟩ := HS.out
        have o4' : Only [] w2 w4 := o4
        have hg' : w2.heap.size ≤ g := hg.elim (fun h => by simp [blockOf] at h) id
        refine ⟨some ⟨g, off, none⟩, cap', [⟨#[116, 104, 58]⟩ ++ ⟨#[48]⟩], rfl, hsl, ?_, O2.out.trans o4', ?_, o4'.blk HB2.out (by simp)⟩
        · simp only [dataL, List.map_cons, List.map_nil, cat_data, tPart, if_true]
          rw [Hx.out]; try rfl
        · intro b' hb'
          simp only [blockOf, List.mem_singleton] at hb'
          subst hb'
          have := lt_of_blk HB2.out
          omega
      · have hie := ne_isEmpty hx
        have hsh : shortL t = X.data.toList := by unfold shortL; rw [if_neg (by rw [← HX.out]; exact hx), HX.out]
        have Hx := Lib.hid hsh
        clear hx hsh
        obtain ⟨g, off, cap', w4, hap, hsl, o4, hg⟩ := str_append (w := w2) (l := []) .nil (by simp) (⟨#[116, 104, 58]⟩ ++ X)
        simp only [List.length_nil, Nat.zero_add, List.nil_append] at hap hsl
        have HS := Lib.hid (And.intro hsl (And.intro o4 hg))
        clear hsl o4 hg
        go_wp2_with fail
        go_meet
        obtain ⟨hsl, o4, hg⟩ := HS.out
        have o4' : Only [] w2 w4 := o4
        have hg' : w2.heap.size ≤ g := hg.elim (fun h => by simp [blockOf] at h) id
        refine ⟨some ⟨g, off, none⟩, cap', [⟨#[116, 104, 58]⟩ ++ X], rfl, hsl, ?_, O2.out.trans o4', ?_, o4'.blk HB2.out (by simp)⟩
        · simp only [dataL, List.map_cons, List.map_nil, cat_data, tPart, if_true]
          rw [Hx.out]; try rfl
        · intro b' hb'
          simp only [blockOf, List.mem_singleton] at hb'
          subst hb'
          have := lt_of_blk HB2.out
          omega
  case rest =>
    obtain ⟨p, c, L, rfl, hsl, hd, ho, hfr, hb⟩ := hcut
    have hLl : L.length ≤ 1 := by
      have := congrArg List.length hd
      unfold dataL tPart at this
      rw [List.length_map] at this
      rw [this]
      split <;> simp
    have r2 : wc.cell? ⟨w.heap.size, 2, none⟩ = some (.bool hR) := by rw [cell_of_blk hb]; rfl
    have r3 : wc.cell? ⟨w.heap.size, 3, none⟩ = some (.int .u64 r) := by rw [cell_of_blk hb]; rfl
    have hbl := lt_of_blk hb
    have hL0 : (L.length : Int) ≤ 1 := by omega
    cases hR with
    | false =>
      have hw : Lib.join (dataL L) [59] = writtenL ⟨hT, t, false, r⟩ := by rw [hd, writtenL_eq]; simp [rPart, tPart]
      have hjl : (Lib.join (dataL L) [59]).length ≤ 100000000 := by rw [hw]; exact written_len _
      have CJ := Lib.hid (join_walk hsl 59 (by omega) hjl)
      have HW := Lib.hid hw
      have HO := Lib.hid ho
      clear hsl hd ho hfr hb hw hjl
      go_wp2_with fail
      refine Calls.mono CJ.out ?_
      rintro e w6 ⟨rfl, o6⟩
      rw [HW.out]
      have HO6 := Lib.hid (HO.out.trans o6)
      clear o6
      go_wp2_with fail
      go_ret
      exact ⟨rfl, HO6.out⟩
    | true =>
      have HS := Lib.hid (And.intro hsl (And.intro hd (And.intro ho (And.intro hfr hb))))
      clear hsl hd ho hfr hb
      go_wp2_with fail
      refine Calls.mono (CR.out _) ?_
      rintro e w4 ⟨rfl, o4⟩
      obtain ⟨hsl, hd, ho, hfr, hb⟩ := HS.out
      obtain ⟨g, off, cap', w5, hap, hsl5, o5, hg⟩ := str_append (hsl.only o4 (by simp)) (by omega) (⟨#[114, 118, 58]⟩ ++ B)
      have hw : Lib.join (dataL (L ++ [⟨#[114, 118, 58]⟩ ++ B])) [59] = writtenL ⟨hT, t, true, r⟩ := by
        rw [writtenL_eq]
        congr 1
        simp only [dataL, List.map_append, List.map_cons, List.map_nil, cat_data, HBd.out, rPart, if_true]
        have hd' : List.map (fun s => s.data.toList) L = tPart ⟨hT, t, true, r⟩ := hd
        rw [hd']
      have hjl : (Lib.join (dataL (L ++ [⟨#[114, 118, 58]⟩ ++ B])) [59]).length ≤ 100000000 := by rw [hw]; exact written_len _
      have hl2 : (L ++ [⟨#[114, 118, 58]⟩ ++ B]).length = L.length + 1 := by simp
      have h5 : Only [] w w5 := (ho.trans o4).trans' o5 (fun x hx hlt => by have := hfr x hx; omega)
      have CJ := Lib.hid (join_walk hsl5 59 (by simp; omega) hjl)
      have HW := Lib.hid hw
      have HO := Lib.hid h5
      clear hsl hd ho hfr hb hw hjl o4 o5 hsl5 hg h5 hl2 HS
      go_wp2_with fail
      refine Calls.mono CJ.out ?_
      rintro e w6 ⟨rfl, o6⟩
      rw [HW.out]
      have HO6 := Lib.hid (HO.out.trans o6)
      clear o6
      go_wp2_with fail
      go_ret
      exact ⟨rfl, HO6.out⟩

end Go.Proofs.YtfnbkcdcdeojfaaDoor
