/- Package prio, walked: Add. -/
import Derived.Test.YtbboklmmnnedjaaPg
set_option linter.unusedVariables false
set_option linter.unusedSimpArgs false
namespace Go.Proofs.Ytbboklmmnnedjaa
open Go.RowKit Go.Mk Go.Pr

theorem addS_mem {keep : Nat} {S : List Of} {o x : Of} (h : x ∈ addS keep S o) : x = o ∨ x ∈ S := by
  have hm : x ∈ insT o S := by
    unfold addS at h
    split at h
    · exact h
    · exact List.mem_of_mem_tail h
  rcases List.mem_cons.1 ((insT_perm o S).mem_iff.1 hm) with h | h
  · exact .inl h
  · exact .inr h
theorem addS_sorted {keep : Nat} {S : List Of} {o : Of} (h : SortedT S) (hne : ∀ a ∈ S, a.p ≠ o.p) : SortedT (addS keep S o) := by
  unfold addS
  split
  · exact insT_sorted h hne
  · have := insT_sorted (t := o) h hne
    cases hX : insT o S with
    | nil => exact List.Pairwise.nil
    | cons a X => rw [hX] at this; exact this.tail
theorem addS_len {keep : Nat} {S : List Of} {o : Of} (h : S.length ≤ keep + 1) : (addS keep S o).length ≤ keep + 1 := by
  unfold addS
  split
  · assumption
  · rw [List.length_tail, insT_length]; omega

def drawn (draws d : Nat) : Nat := if draws = 0 then d else d % draws

set_option maxRecDepth 100000 in
set_option maxHeartbeats 2000000 in
/-- Add, of an offer as it counts. -/
theorem sampler_add {w : World} {hp keep draws many : Nat} {S : List Of} {sv : Value} (h : SamplerAt w hp keep draws many S sv) (weight draw : Nat) (hw1 : 1 ≤ weight) (hw2 : weight ≤ 4294967296) (hd : draw < 18446744073709551616) (hmany : many < 5000) :
    Calls Try.prog 11 #[.pointer (some ⟨hp, 0, none⟩), .int .u64 weight, .int .u64 draw] w fun e w' =>
      e = .returned (.tuple #[.int .i64 many, .int .u16 0]) ∧ ∃ sv', SamplerAt w' hp keep draws (many + 1) (addS keep S ⟨weight, drawn draws draw, many⟩) sv' ∧ Only (hp :: blockOf sv) w w' ∧ (∀ b ∈ blockOf sv', b ∈ blockOf sv ∨ w.heap.size ≤ b) := by
  have Hs := Lib.hid h
  obtain ⟨L, hL, hH, hP⟩ := h.body
  have c0 := hL.c0
  have c1 : w.cell? ⟨hp, 1, none⟩ = some (.int .i64 keep) := by rw [cell_of_blk hL.blk]; simp
  have c2 : w.cell? ⟨hp, 2, none⟩ = some (.int .u64 draws) := by rw [cell_of_blk hL.blk]; simp
  have c3 : w.cell? ⟨hp, 3, none⟩ = some (.int .i64 many) := by rw [cell_of_blk hL.blk]; simp
  have hfz : ∀ i, w.frozen? ⟨hp, i, none⟩ = false := fun i => frozen_of_blk hL.blk
  have hlt := lt_of_blk hL.blk
  have g1 : ((weight : Int) == 0) = false := beq_eq_false_iff_ne.2 (by omega)
  have g2 : decide ((4294967296 : Int) < weight) = false := decide_eq_false (by omega)
  have hll := hP.length_eq
  have hroom := h.room
  have hk2 := h.keep2
  have hd64 := h.draws64
  have hsort := h.sorted
  have hpl := h.places
  have hsvlt : ∀ b ∈ blockOf sv, b < w.heap.size := fun b hb => hL.sl.lt b hb
  have key : ∀ D : Nat, D < 18446744073709551616 → LeastAt ((w.setCell ⟨hp, 3, none⟩ (.int .i64 ((many : Int) + 1))).alloc (.cells #[.int .u64 weight, .int .u64 D, .int .i64 many] 56)).drew hp [.int .i64 keep, .int .u64 draws, .int .i64 ((many : Int) + 1)] 54 sv L ∧ Only [hp] w ((w.setCell ⟨hp, 3, none⟩ (.int .i64 ((many : Int) + 1))).alloc (.cells #[.int .u64 weight, .int .u64 D, .int .i64 many] 56)).drew ∧ ((w.setCell ⟨hp, 3, none⟩ (.int .i64 ((many : Int) + 1))).alloc (.cells #[.int .u64 weight, .int .u64 D, .int .i64 many] 56)).drew.heap[w.heap.size]? = some (.cells #[.int .u64 weight, .int .u64 D, .int .i64 many] 56 (0, 0)) := by
    intro D hD
    have o1 : Only [hp] w (w.setCell ⟨hp, 3, none⟩ (.int .i64 ((many : Int) + 1))) := (Only.refl _ _).setCell (.inl (by simp)) _
    have b1 := setCell_blk (i := 3) (v := .int .i64 ((many : Int) + 1)) hL.blk
    have hs : (w.setCell ⟨hp, 3, none⟩ (.int .i64 ((many : Int) + 1))).heap.size = w.heap.size := by simp
    have o2 : Only [] (w.setCell ⟨hp, 3, none⟩ (.int .i64 ((many : Int) + 1))) ((w.setCell ⟨hp, 3, none⟩ (.int .i64 ((many : Int) + 1))).alloc (.cells #[.int .u64 weight, .int .u64 D, .int .i64 many] 56)).drew := ((Only.refl _ _).alloc _).drew
    refine ⟨⟨?_, (hL.sl.only o1 (by intro b hb; have := hL.far; simp only [List.mem_singleton]; rintro rfl; exact this hb)).only o2 (by simp), hL.far, hL.ok⟩, o1.trans' o2 (by simp), ?_⟩
    · have h2 := o2.blk b1 (by simp)
      rw [h2]; simp
    · have h3 := heap_alloc_new (w.setCell ⟨hp, 3, none⟩ (.int .i64 ((many : Int) + 1))) (.cells #[.int .u64 weight, .int .u64 D, .int .i64 many] 56)
      rw [hs] at h3
      exact ((Only.refl [] _).drew).blk h3 (by simp)
  have Hkey := Lib.hid key
  have HH := Lib.hid hH
  have HP := Lib.hid hP
  have Hsort := Lib.hid hsort
  have Hpl := Lib.hid hpl
  have Hsv := Lib.hid hsvlt
  clear key hH hP hsort hpl hsvlt
  have hsplit : ∀ D : Nat, ∃ t X, insT ⟨weight, D, many⟩ S = t :: X := by
    intro D
    cases hX : insT ⟨weight, D, many⟩ S with
    | nil => have := insT_length ⟨weight, D, many⟩ S; rw [hX] at this; simp at this
    | cons t X => exact ⟨t, X, rfl⟩
  have Hsplit := Lib.hid hsplit
  clear hsplit
  by_cases hz : draws = 0
  · subst hz
    go_enter Try.func11, Try.ntmps11
    go_wp2_with fail
    go_region_with (go_at_call 20; refine (heap_push (Hkey.out draw (by omega)).1 HH.out ⟨weight, draw, many⟩ ⟨by simp only [big]; omega, by simp only [big]; omega, by simp only; omega⟩ (by omega)).mono ?_; rintro e w1 ⟨rfl, sv1, L1, hL1, hH1, hP1, ho1, hb1⟩)
    obtain ⟨hk1, hk2o, hk3⟩ := Hkey.out draw (by omega)
    have oA : Only (hp :: blockOf sv) w w1 := (hk2o.mono (by simp)).trans' ho1 (by intro x hx _; exact hx)
    have hloc : w.heap.size ∉ hp :: blockOf sv := by
      intro hm
      rcases List.mem_cons.1 hm with he | hm
      · omega
      · have := Hsv.out _ hm; omega
    have hkb := ho1.blk hk3 hloc
    have l2 : w1.cell? ⟨w.heap.size, 2, none⟩ = some (.int .i64 many) := by rw [cell_of_blk hkb]; simp
    have c1' : w1.cell? ⟨hp, 1, none⟩ = some (.int .i64 keep) := by rw [cell_of_blk hL1.blk]; simp
    have hsz := oA.size
    have hbb : ∀ b ∈ blockOf sv1, b ∈ blockOf sv ∨ w.heap.size ≤ b := by
      intro b hb
      rcases hb1 b hb with hb | hb
      · exact .inl hb
      · exact .inr (Nat.le_trans hk2o.size hb)
    obtain ⟨p, cap, hsv⟩ := hL1.sl.form
    rw [List.length_map] at hsv
    have hPS : L1.Perm (insT ⟨weight, draw, many⟩ S) := (hP1.trans (HP.out.cons _)).trans (insT_perm _ _).symm
    have hlen1 : L1.length = S.length + 1 := by rw [hPS.length_eq, insT_length]
    have hinS := insT_length ⟨weight, draw, many⟩ S
    have hsrt : SortedT (insT ⟨weight, draw, many⟩ S) := insT_sorted Hsort.out (fun a ha => by have := Hpl.out a ha; simp only; omega)
    have hplc : ∀ o ∈ insT ⟨weight, draw, many⟩ S, o.p < many + 1 := by
      intro o ho
      rcases List.mem_cons.1 ((insT_perm _ S).mem_iff.1 ho) with rfl | ho
      · simp
      · have := Hpl.out o ho; omega
    have hdr : drawn 0 draw = draw := rfl
    by_cases hc : S.length + 1 ≤ keep + 1
    · have hAdd : addS keep S ⟨weight, draw, many⟩ = insT ⟨weight, draw, many⟩ S := by rw [addS, if_pos (by omega)]
      have gA : decide ((keep : Int) + 1 < (L1.length : Int)) = false := decide_eq_false (by omega)
      have HF := Lib.hid (And.intro hAdd (And.intro hPS (And.intro hsrt (And.intro hplc (And.intro oA (And.intro hbb (And.intro hL1 (And.intro hH1 hdr))))))))
      have c0' := hL1.c0
      have Hb := Lib.hid hL1
      clear hAdd hPS hsrt hplc oA hbb hH1 hdr hb1 ho1 hkb hk1 hk2o hk3 hP1 hL1 c0 c1 c2 c3 h hL Hb
      subst hsv
      go_wp2_with fail
      go_region
      all_goals go_wp2_with fail
      go_ret2
      obtain ⟨hAdd, hPS, hsrt, hplc, oA, hbb, hL1, hH1, hdr⟩ := HF.out
      rw [hdr, hAdd]
      have od : Only [] w1 w1.drew := (Only.refl _ _).drew
      exact ⟨rfl, _, ⟨⟨L1, by simpa using hL1.only od (by simp) (by simp), hH1, hPS⟩, hsrt, by omega, hplc, Hs.out.keep1, hk2, hd64, by omega⟩, oA.trans' od (by simp), hbb⟩
    · obtain ⟨t, X, hX⟩ := Hsplit.out draw
      have hAdd : addS keep S ⟨weight, draw, many⟩ = X := by rw [addS, if_neg (by omega), hX]; rfl
      rw [hX] at hPS hsrt hplc hinS
      have hhd := head_least hPS hsrt hH1
      have gA : decide ((keep : Int) + 1 < (L1.length : Int)) = true := decide_eq_true (by omega)
      have cP := heap_pop (hL1.only ((Only.refl [] w1).drew) (by simp) (by simp)) hH1 hhd (by omega) (by omega)
      have HcP := Lib.hid cP
      have HF := Lib.hid (And.intro hAdd (And.intro hPS (And.intro hsrt (And.intro hplc (And.intro oA (And.intro hbb hdr))))))
      have hloc1 : w.heap.size ∉ hp :: blockOf sv1 := by
        intro hm
        rcases List.mem_cons.1 hm with he | hm
        · omega
        · have hsz3 := lt_of_blk hk3
          rcases hb1 _ hm with hm | hm
          · have := Hsv.out _ hm; omega
          · omega
      have c0' := hL1.c0
      have Hkb := Lib.hid hkb
      clear cP hAdd hPS hsrt hplc hdr hb1 ho1 hkb hk1 hk2o hk3 hP1 hL1 hH1 c0 c1 c2 c3 h hL hhd
      have Hloc1 := Lib.hid hloc1
      clear hloc1
      subst hsv
      go_wp2_with fail
      go_region
      all_goals go_wp2_with fail
      refine HcP.out.mono ?_
      rintro e w3 ⟨rfl, sv3, L3, hL3, hH3, hP3, ho3, hb3⟩
      have l2' : w3.cell? ⟨w.heap.size, 2, none⟩ = some (.int .i64 many) := by
        rw [cell_of_blk (ho3.blk ((Only.refl [] w1).drew.blk Hkb.out (by simp)) Hloc1.out)]; simp
      have HR := Lib.hid (And.intro hL3 (And.intro hH3 (And.intro hP3 (And.intro ho3 hb3))))
      clear hL3 hH3 hP3 ho3 hb3
      go_wp2_with fail
      go_ret2
      obtain ⟨hL3, hH3, hP3, ho3, hb3⟩ := HR.out
      obtain ⟨hAdd, hPS, hsrt, hplc, oA, hbb, hdr⟩ := HF.out
      rw [hdr, hAdd]
      have od : Only [] w1 w1.drew := (Only.refl _ _).drew
      simp only [List.length_cons] at hinS
      exact ⟨rfl, _, ⟨⟨L3, by simpa using hL3, hH3, List.Perm.cons_inv (hP3.trans hPS)⟩, hsrt.tail, by omega, fun o ho => hplc o (List.mem_cons_of_mem _ ho), Hs.out.keep1, hk2, hd64, by omega⟩, (oA.trans' od (by simp)).trans' ho3 (by
        intro x hx hlt
        rcases List.mem_cons.1 hx with rfl | hx
        · simp
        · rcases hbb x hx with hx | hx
          · simp [hx]
          · omega), by rw [hb3]; exact hbb⟩
  · have g3 : decide ((0 : Int) < draws) = true := decide_eq_true (by omega)
    have g4 : ((draws : Int) == 0) = false := beq_eq_false_iff_ne.2 (by omega)
    obtain ⟨D, hDn⟩ : ∃ D : Nat, D = draw % draws := ⟨_, rfl⟩
    have hcast : ((draw : Int) % (draws : Int)) = (D : Int) := by rw [hDn]; simp
    have hDlt : D < 18446744073709551616 := by rw [hDn]; exact Nat.lt_of_lt_of_le (Nat.mod_lt _ (by omega)) (by omega)
    have Hdr : Hid (drawn draws draw = D) := Lib.hid (by rw [drawn, if_neg hz, hDn])
    clear hDn
    go_enter Try.func11, Try.ntmps11
    go_wp2_with fail
    go_region_with (go_at_call 20; refine (heap_push (Hkey.out D (by omega)).1 HH.out ⟨weight, D, many⟩ ⟨by simp only [big]; omega, by simp only [big]; omega, by simp only; omega⟩ (by omega)).mono ?_; rintro e w1 ⟨rfl, sv1, L1, hL1, hH1, hP1, ho1, hb1⟩)
    obtain ⟨hk1, hk2o, hk3⟩ := Hkey.out D (by omega)
    have oA : Only (hp :: blockOf sv) w w1 := (hk2o.mono (by simp)).trans' ho1 (by intro x hx _; exact hx)
    have hloc : w.heap.size ∉ hp :: blockOf sv := by
      intro hm
      rcases List.mem_cons.1 hm with he | hm
      · omega
      · have := Hsv.out _ hm; omega
    have hkb := ho1.blk hk3 hloc
    have l2 : w1.cell? ⟨w.heap.size, 2, none⟩ = some (.int .i64 many) := by rw [cell_of_blk hkb]; simp
    have c1' : w1.cell? ⟨hp, 1, none⟩ = some (.int .i64 keep) := by rw [cell_of_blk hL1.blk]; simp
    have hsz := oA.size
    have hbb : ∀ b ∈ blockOf sv1, b ∈ blockOf sv ∨ w.heap.size ≤ b := by
      intro b hb
      rcases hb1 b hb with hb | hb
      · exact .inl hb
      · exact .inr (Nat.le_trans hk2o.size hb)
    obtain ⟨p, cap, hsv⟩ := hL1.sl.form
    rw [List.length_map] at hsv
    have hPS : L1.Perm (insT ⟨weight, D, many⟩ S) := (hP1.trans (HP.out.cons _)).trans (insT_perm _ _).symm
    have hlen1 : L1.length = S.length + 1 := by rw [hPS.length_eq, insT_length]
    have hinS := insT_length ⟨weight, D, many⟩ S
    have hsrt : SortedT (insT ⟨weight, D, many⟩ S) := insT_sorted Hsort.out (fun a ha => by have := Hpl.out a ha; simp only; omega)
    have hplc : ∀ o ∈ insT ⟨weight, D, many⟩ S, o.p < many + 1 := by
      intro o ho
      rcases List.mem_cons.1 ((insT_perm _ S).mem_iff.1 ho) with rfl | ho
      · simp
      · have := Hpl.out o ho; omega
    have hdr : drawn draws draw = D := Hdr.out
    by_cases hc : S.length + 1 ≤ keep + 1
    · have hAdd : addS keep S ⟨weight, D, many⟩ = insT ⟨weight, D, many⟩ S := by rw [addS, if_pos (by omega)]
      have gA : decide ((keep : Int) + 1 < (L1.length : Int)) = false := decide_eq_false (by omega)
      have HF := Lib.hid (And.intro hAdd (And.intro hPS (And.intro hsrt (And.intro hplc (And.intro oA (And.intro hbb (And.intro hL1 (And.intro hH1 hdr))))))))
      have c0' := hL1.c0
      have Hb := Lib.hid hL1
      clear hAdd hPS hsrt hplc oA hbb hH1 hdr hb1 ho1 hkb hk1 hk2o hk3 hP1 hL1 c0 c1 c2 c3 h hL Hb
      subst hsv
      go_wp2_with fail
      go_region
      all_goals go_wp2_with fail
      go_ret2
      obtain ⟨hAdd, hPS, hsrt, hplc, oA, hbb, hL1, hH1, hdr⟩ := HF.out
      rw [hdr, hAdd]
      have od : Only [] w1 w1.drew := (Only.refl _ _).drew
      exact ⟨rfl, _, ⟨⟨L1, by simpa using hL1.only od (by simp) (by simp), hH1, hPS⟩, hsrt, by omega, hplc, Hs.out.keep1, hk2, hd64, by omega⟩, oA.trans' od (by simp), hbb⟩
    · obtain ⟨t, X, hX⟩ := Hsplit.out D
      have hAdd : addS keep S ⟨weight, D, many⟩ = X := by rw [addS, if_neg (by omega), hX]; rfl
      rw [hX] at hPS hsrt hplc hinS
      have hhd := head_least hPS hsrt hH1
      have gA : decide ((keep : Int) + 1 < (L1.length : Int)) = true := decide_eq_true (by omega)
      have cP := heap_pop (hL1.only ((Only.refl [] w1).drew) (by simp) (by simp)) hH1 hhd (by omega) (by omega)
      have HcP := Lib.hid cP
      have HF := Lib.hid (And.intro hAdd (And.intro hPS (And.intro hsrt (And.intro hplc (And.intro oA (And.intro hbb hdr))))))
      have hloc1 : w.heap.size ∉ hp :: blockOf sv1 := by
        intro hm
        rcases List.mem_cons.1 hm with he | hm
        · omega
        · have hsz3 := lt_of_blk hk3
          rcases hb1 _ hm with hm | hm
          · have := Hsv.out _ hm; omega
          · omega
      have c0' := hL1.c0
      have Hkb := Lib.hid hkb
      clear cP hAdd hPS hsrt hplc hdr hb1 ho1 hkb hk1 hk2o hk3 hP1 hL1 hH1 c0 c1 c2 c3 h hL hhd
      have Hloc1 := Lib.hid hloc1
      clear hloc1
      subst hsv
      go_wp2_with fail
      go_region
      all_goals go_wp2_with fail
      refine HcP.out.mono ?_
      rintro e w3 ⟨rfl, sv3, L3, hL3, hH3, hP3, ho3, hb3⟩
      have l2' : w3.cell? ⟨w.heap.size, 2, none⟩ = some (.int .i64 many) := by
        rw [cell_of_blk (ho3.blk ((Only.refl [] w1).drew.blk Hkb.out (by simp)) Hloc1.out)]; simp
      have HR := Lib.hid (And.intro hL3 (And.intro hH3 (And.intro hP3 (And.intro ho3 hb3))))
      clear hL3 hH3 hP3 ho3 hb3
      go_wp2_with fail
      go_ret2
      obtain ⟨hL3, hH3, hP3, ho3, hb3⟩ := HR.out
      obtain ⟨hAdd, hPS, hsrt, hplc, oA, hbb, hdr⟩ := HF.out
      rw [hdr, hAdd]
      have od : Only [] w1 w1.drew := (Only.refl _ _).drew
      simp only [List.length_cons] at hinS
      exact ⟨rfl, _, ⟨⟨L3, by simpa using hL3, hH3, List.Perm.cons_inv (hP3.trans hPS)⟩, hsrt.tail, by omega, fun o ho => hplc o (List.mem_cons_of_mem _ ho), Hs.out.keep1, hk2, hd64, by omega⟩, (oA.trans' od (by simp)).trans' ho3 (by
        intro x hx hlt
        rcases List.mem_cons.1 hx with rfl | hx
        · simp
        · rcases hbb x hx with hx | hx
          · simp [hx]
          · omega), by rw [hb3]; exact hbb⟩

end Go.Proofs.Ytbboklmmnnedjaa
