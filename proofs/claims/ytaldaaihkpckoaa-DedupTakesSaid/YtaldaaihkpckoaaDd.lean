/- Take of package dedup, walked. -/
import Derived.Test.YtaldaaihkpckoaaDc
namespace Go.Proofs.Ytaldaaihkpckoaa
open Go.RowKit Go.Mk Go.Dd

theorem dd_search' {w : World} {A : List Int} {sv : Value} (h : IntsAre w A sv) (hs : A.Pairwise (· < ·)) (hl : A.length ≤ 1000000) (x : Int) :
    Calls Try.prog 18 #[sv, .int .i64 x] w fun e w' => e = .returned (.tuple #[.int .i64 (cntL x A : Nat), .bool (A.contains x)]) ∧ Only [] w w' :=
  (dd_search h hs hl x).mono fun e w' ⟨h1, q, h2⟩ => ⟨h1, by rw [h2]; exact (Only.refl _ _).drewN q⟩

theorem seen_step {wr : World} {sp most : Nat} {sv sv2 : Value} {lo1 lo2 : Int} {A1 A2 : List Int} (h : SeenAt wr sp sv lo1 A1 most) (n : Nat) (hI : IntsAre wr A2 sv2) (hb : ∀ b ∈ blockOf sv2, b ∈ blockOf sv) :
    SeenAt (((wr.drewN n).setCell ⟨sp, 1, none⟩ sv2).setCell ⟨sp, 0, none⟩ (.int .i64 lo2)) sp sv2 lo2 A2 most ∧ Only [sp] wr (((wr.drewN n).setCell ⟨sp, 1, none⟩ sv2).setCell ⟨sp, 0, none⟩ (.int .i64 lo2)) := by
  have o1 : Only [sp] wr (((wr.drewN n).setCell ⟨sp, 1, none⟩ sv2).setCell ⟨sp, 0, none⟩ (.int .i64 lo2)) := ((((Only.refl _ _).drewN n).setCell (.inl (by simp)) _).setCell (.inl (by simp)) _)
  have hn : sp ∉ blockOf sv2 := fun hm => h.ap (hb _ hm)
  have c0 : (wr.drewN n).cell? ⟨sp, 0, none⟩ = some (.int .i64 lo1) := h.c0
  have c1 : (wr.drewN n).cell? ⟨sp, 1, none⟩ = some sv := h.c1
  have c2 : (wr.drewN n).cell? ⟨sp, 2, none⟩ = some (.int .i64 most) := h.c2
  refine ⟨⟨?_, ?_, ?_, ?_, hI.only o1 (fun b hb hm => hn (by rw [List.mem_singleton] at hm; rw [← hm]; exact hb)), hn⟩, o1⟩
  · exact World.cell?_setCell_same _ _ _ (by rw [World.cell?_setCell_other _ _ _ _ (by simp)]; exact c0)
  · rw [World.cell?_setCell_other _ _ _ _ (by simp)]; exact World.cell?_setCell_same _ _ _ c1
  · rw [World.cell?_setCell_other _ _ _ _ (by simp), World.cell?_setCell_other _ _ _ _ (by simp)]; exact c2
  · intro i; rw [World.frozen?_setCell, World.frozen?_setCell]; exact h.fz i

set_option maxRecDepth 100000 in
set_option maxHeartbeats 1000000 in
theorem seen_Take {w : World} {sp : Nat} {F : List Nat} {lo : Int} {A : List Int} {most : Nat} (h : SeenObj w sp F lo A most) (k : Int) (hb : lo + A.length ≤ 1000000) :
    Calls Try.prog 9 #[.pointer (some ⟨sp, 0, none⟩), .int .i64 k] w fun e w' => e = .returned (.int .u8 (told lo A most k)) ∧
      ∃ F' lo' A', SeenObj w' sp F' lo' A' most ∧ NextS lo A most k lo' A' ∧ Only F w w' ∧ ∀ b ∈ F', b ∈ F ∨ w.heap.size ≤ b := by
  obtain ⟨sv, hS, rfl, hOk, hm⟩ := h
  obtain ⟨p, cap, hsv⟩ := hS.sl.form
  rw [List.length_map] at hsv
  subst hsv
  have hl : A.length ≤ 1000000 := by have := hOk.cap; omega
  have C0 := dd_search' hS.sl hOk.srt hl k
  have c1 := hS.c1
  have keep : ∀ w1, Only [] w w1 → told lo A most k ≠ 1 → ∃ F' lo' A', SeenObj w1 sp F' lo' A' most ∧ NextS lo A most k lo' A' ∧ Only (sp :: blockOf (.slice p A.length cap)) w w1 ∧ ∀ b ∈ F', b ∈ sp :: blockOf (.slice p A.length cap) ∨ w.heap.size ≤ b :=
    fun w1 ho ht => ⟨_, lo, A, ⟨_, hS.only ho (by simp) (by simp), rfl, hOk, hm⟩, next_same hOk ht, ho.mono (by simp), fun b hb => .inl hb⟩
  by_cases hlt : k < lo
  · have g1 : decide (k < lo) = true := by simpa using hlt
    have ht : told lo A most k = 2 := told_came (.inl hlt)
    have C := Lib.hid C0
    have K := Lib.hid keep
    have HS := Lib.hid hS
    clear keep hS hb C0
    go_enter Try.func9, Try.ntmps9
    go_wp2_with (go_at_call 18; refine C.out.mono ?_; rintro e w1 ⟨rfl, ho⟩; have d0 := ho.cell HS.out.c0 (by simp))
    go_ret
    exact ⟨by rw [ht]; rfl, K.out _ ho (by rw [ht]; decide)⟩
  have g1 : decide (k < lo) = false := by simpa using hlt
  by_cases hin : k ∈ A
  · have g2 : A.contains k = true := by simpa using hin
    rw [g2] at C0
    have C := Lib.hid C0
    clear C0 g2
    have ht : told lo A most k = 2 := told_came (.inr hin)
    have K := Lib.hid keep
    have HS := Lib.hid hS
    clear keep hS hb hlt hin
    go_enter Try.func9, Try.ntmps9
    go_wp2_with (go_at_call 18; refine C.out.mono ?_; rintro e w1 ⟨rfl, ho⟩; have d0 := ho.cell HS.out.c0 (by simp))
    go_ret
    exact ⟨by rw [ht]; rfl, K.out _ ho (by rw [ht]; decide)⟩
  have g2 : A.contains k = false := by simpa using hin
  rw [g2] at C0
  have C := Lib.hid C0
  clear C0 g2
  have hnc : ¬ Came lo A k := fun hc => hc.elim hlt hin
  by_cases hgt : lo < k
  · have g3 : decide (lo < k) = true := by simpa using hgt
    by_cases hfull : most ≤ A.length
    · have g4 : decide (most ≤ A.length) = true := by simpa using hfull
      have ht : told lo A most k = 3 := told_full hnc ⟨hgt, hfull⟩
      have K := Lib.hid keep
      have HS := Lib.hid hS
      clear keep hS hb hlt hgt hin hfull
      go_enter Try.func9, Try.ntmps9
      go_wp2_with (go_at_call 18; refine C.out.mono ?_; rintro e w1 ⟨rfl, ho⟩; have d0 := ho.cell HS.out.c0 (by simp); have d1 := ho.cell HS.out.c1 (by simp); have d2 := ho.cell HS.out.c2 (by simp))
      go_quiet (fail)
      go_wp2_with fail
      go_ret
      exact ⟨by rw [ht]; rfl, K.out _ (ho.drewN _) (by rw [ht]; decide)⟩
    · have g4 : decide (most ≤ A.length) = false := by simpa using hfull
      have ht : told lo A most k = 1 := told_fresh hnc (by omega)
      have HS := Lib.hid hS
      have Hgt := Lib.hid hgt
      clear keep hS hb hlt hgt
      go_enter Try.func9, Try.ntmps9
      go_wp2_with (go_at_call 18; refine C.out.mono ?_; rintro e w1 ⟨rfl, ho⟩; have d0 := ho.cell HS.out.c0 (by simp); have d1 := ho.cell HS.out.c1 (by simp); have d2 := ho.cell HS.out.c2 (by simp))
      go_quiet (fail)
      go_wp2_with fail
      have oA : Only [] w ((w1.drewN nq).alloc (.cells #[.int .i64 k] 3)) := (ho.drewN _).alloc _
      have HI := HS.out.only oA (by simp) (by simp)
      have hlw : ∀ b ∈ blockOf (.slice p A.length cap), b < w1.heap.size := fun b hb => ho.lt (HS.out.sl.lt b hb)
      have hsw : sp < w1.heap.size := lt_of_cell d0
      have CI := dd_insert (vc := 1) HI.sl hl (cntL_le k A) (heap_alloc_new (w1.drewN nq) _) rfl (fun hm => Nat.lt_irrefl _ (hlw _ hm))
      refine CI.mono ?_
      rintro e w2 ⟨rv, rfl, hI2, ho2, hb2⟩
      obtain ⟨p2, cap2, hrv⟩ := hI2.form
      rw [List.length_map, ins_len (cntL_le k A)] at hrv
      subst hrv
      have e1 := ho2.cell HI.c1 HS.out.ap
      have f1 : ∀ i, w2.frozen? ⟨sp, i, none⟩ = false := fun i => (World.frozen?_of_block (a := ⟨sp, i, none⟩) (ho2.block sp (by simp; omega) HS.out.ap)).trans (HI.fz i)
      have hnap : sp ∉ blockOf (.slice p2 (A.length + 1) cap2) := fun hm => (hb2 sp hm).elim HS.out.ap (fun h => by simp at h; omega)
      have oS : Only [sp] w2 (w2.setCell ⟨sp, 1, none⟩ (.slice p2 (A.length + 1) cap2)) := (Only.refl _ _).setCell (.inl (by simp)) _
      have hfin : ∃ F' lo' A', SeenObj (w2.setCell ⟨sp, 1, none⟩ (.slice p2 (A.length + 1) cap2)) sp F' lo' A' most ∧ NextS lo A most k lo' A' ∧
          Only (sp :: blockOf (.slice p A.length cap)) w (w2.setCell ⟨sp, 1, none⟩ (.slice p2 (A.length + 1) cap2)) ∧ ∀ b ∈ F', b ∈ sp :: blockOf (.slice p A.length cap) ∨ w.heap.size ≤ b := by
        refine ⟨_, lo, insI k A, ⟨_, ⟨?_, ?_, ?_, ?_, hI2.only oS (fun b hb hm => hnap (by rw [List.mem_singleton] at hm; rw [← hm]; exact hb)), hnap⟩, rfl, (next_ins hOk Hgt.out hin (Nat.lt_of_not_le hfull)).ok, hm⟩, next_ins hOk Hgt.out hin (Nat.lt_of_not_le hfull), ?_, ?_⟩
        · rw [World.cell?_setCell_other _ _ _ _ (by simp)]; exact ho2.cell HI.c0 HS.out.ap
        · exact World.cell?_setCell_same _ _ _ e1
        · rw [World.cell?_setCell_other _ _ _ _ (by simp)]; exact ho2.cell HI.c2 HS.out.ap
        · intro i; rw [World.frozen?_setCell]; exact f1 i
        · exact (((oA.mono (by simp)).trans (ho2.mono (fun b hb _ => List.mem_cons_of_mem _ hb))).setCell (.inl (by simp)) _)
        · intro b hb
          rcases List.mem_cons.1 hb with rfl | hb
          · exact .inl (by simp)
          · rcases hb2 b hb with h1 | h1
            · exact .inl (List.mem_cons_of_mem _ h1)
            · exact .inr (Nat.le_trans oA.size h1)
      have Hfin := Lib.hid hfin
      clear hfin HI CI hI2 ho2 hb2 hnap oS oA hlw hin hfull
      go_wp2_with fail
      go_ret
      exact ⟨by rw [ht]; rfl, Hfin.out⟩
  · have g3 : decide (lo < k) = false := by simpa using hgt
    have hk : k = lo := by omega
    have ht : told lo A most k = 1 := told_fresh hnc (by omega)
    have HS := Lib.hid hS
    have Hk := Lib.hid hk
    have Hb := Lib.hid hb
    clear keep hS hlt hgt hk hb hin hnc
    go_enter Try.func9, Try.ntmps9
    go_wp2_with (go_at_call 18; refine C.out.mono ?_; rintro e w1 ⟨rfl, ho⟩; have d0 := ho.cell HS.out.c0 (by simp); have d1 := ho.cell HS.out.c1 (by simp); have d2 := ho.cell HS.out.c2 (by simp))
    clear g1
    go_region
    have hlo1 : 0 ≤ lo := hOk.lo0
    have hlo2 : lo ≤ 1000000 := by have := Hb.out; omega
    have f1 : ∀ i, w1.frozen? ⟨sp, i, none⟩ = false := (HS.out.only ho (by simp) (by simp)).fz
    have HSw := Lib.hid (HS.out.only ho (by simp) (by simp))
    have Ho := Lib.hid ho
    have HOk := Lib.hid hOk
    have oW : ∀ n, Only [sp] w1 ((w1.setCell ⟨sp, 0, none⟩ (.int .i64 (lo + 1))).drewN n) := fun n => ((Only.refl _ _).setCell (.inl (by simp)) _).drewN n
    have HoW := Lib.hid oW
    clear oW ho hOk
    go_wp2_with fail
    go_loopg [] A.length (fun g wr => ∃ (p1 : Option Addr) (cap1 : Nat) (lo1 : Int) (A1 : List Int), A1.length ≤ g ∧ lo + 1 ≤ lo1 ∧ SeenAt wr sp (.slice p1 A1.length cap1) lo1 A1 most ∧ runL lo1 A1 = runL (lo + 1) A ∧ Only (sp :: blockOf (.slice p A.length cap)) w wr ∧ (∀ b ∈ blockOf (.slice p1 A1.length cap1), b ∈ blockOf (.slice p A.length cap)))
    case atStart =>
      have oW := (Only.refl [sp] w1).setCell (p := ⟨sp, 0, none⟩) (.inl (by simp)) (.int .i64 (lo + 1))
      refine ⟨p, cap, lo + 1, A, Nat.le_refl _, Int.le_refl _, ⟨?_, ?_, ?_, ?_, HSw.out.sl.only oW.drew (fun b hb hm => HS.out.ap (by rw [List.mem_singleton] at hm; rw [← hm]; exact hb)), HS.out.ap⟩, rfl, ?_, fun b hb => hb⟩
      · rw [World.cell?_drew]; exact World.cell?_setCell_same _ _ _ d0
      · rw [World.cell?_drew, World.cell?_setCell_other _ _ _ _ (by simp)]; exact d1
      · rw [World.cell?_drew, World.cell?_setCell_other _ _ _ _ (by simp)]; exact d2
      · intro i; rw [World.frozen?_drew, World.frozen?_setCell]; exact f1 i
      · exact ((Ho.out.mono (by simp)).setCell (.inl (by simp)) _).drew
    case round =>
      obtain ⟨p1, cap1, lo1, A1, hg, hge, hS1, hrun, ho1, hbs⟩ := hrel
      have hl1 := runL_len A1 lo1
      have hl2 := runL_len A (lo + 1)
      rw [hrun] at hl1
      have hlo4 : 0 ≤ lo1 ∧ lo1 ≤ 1000001 := by have := Hb.out; omega
      obtain ⟨hlo5, hlo6⟩ := hlo4
      clear hl1 hl2 d0 d1 d2 f1 c1
      have b0 := hS1.c0
      have b1 := hS1.c1
      have fin : ∀ w3, Only [] wr w3 → runL lo1 A1 = (lo1, A1) → ∃ F' lo' A', SeenObj w3 sp F' lo' A' most ∧ NextS lo A most k lo' A' ∧ Only (sp :: blockOf (.slice p A.length cap)) w w3 ∧ ∀ b ∈ F', b ∈ sp :: blockOf (.slice p A.length cap) ∨ w.heap.size ≤ b := by
        intro w3 h3 hr
        have hn := next_run HOk.out Hk.out
        rw [← hrun, hr] at hn
        refine ⟨_, lo1, A1, ⟨_, hS1.only h3 (by simp) (by simp), rfl, hn.ok, hm⟩, hn, ho1.trans (h3.mono (by simp)), fun b hb => .inl ?_⟩
        rcases List.mem_cons.1 hb with rfl | hb
        · simp
        · exact List.mem_cons_of_mem _ (hbs b hb)
      cases A1 with
      | nil =>
        have Hfin := Lib.hid fin
        have HR : Hid (runL lo1 [] = (lo1, [])) := rfl
        clear fin hrun hS1 ho1 hbs hg
        go_wp2_with fail
        go_region
        go_wp2_with fail
        go_ret
        exact ⟨by rw [ht]; rfl, Hfin.out _ (Only.refl _ _).drew HR.out⟩
      | cons a A2 =>
        rcases hS1.sl.ints with ⟨h0, _⟩ | ⟨gb, off, cap2, hsv1, hr⟩
        · cases h0
        cases hsv1
        have ca := hr.int (i := 0) (x := a) rfl
        rw [Nat.add_zero] at ca
        by_cases hal : a = lo1
        · have hq : (a == lo1) = true := by simpa using hal
          have HR : Hid (runL lo1 (a :: A2) = runL (lo1 + 1) A2) := by show runL lo1 (a :: A2) = runL (lo1 + 1) A2; rw [runL, if_pos hal]
          have hfit : A2.length + 1 ≤ cap1 := by have := hr.fits; simpa using this
          have hlt1 : gb < wr.heap.size := hr.lt
          have fw := hS1.fz
          have HS1 := Lib.hid hS1
          have Hrun := Lib.hid hrun
          have Ho1 := Lib.hid ho1
          have Hbs := Lib.hid hbs
          have Hr := Lib.hid hr
          have Hal := Lib.hid hal
          have hb1 : (a : Int) + 1 ≤ 9223372036854775807 := by omega
          clear fin hrun hS1 ho1 hbs hr hal
          go_wp2_with fail
          go_quiet (fail)
          go_wp2_with fail
          · have hcap : cap1 = 1 := by assumption
            have hA2 : A2 = [] := List.length_eq_zero_iff.1 (by omega)
            have hI : IntsAre wr A2 (.slice (some ⟨gb, off, none⟩) A2.length 0) := by
              obtain ⟨cur, hb, hc, _⟩ := Hr.out.blk
              refine IntsAre.mk (rowMem_ints hb (by omega) (by omega) (by unfold maxLen; omega) (fun i x hx => ?_)) rfl
              rw [hA2] at hx; cases hx
            obtain ⟨h5, h6⟩ := seen_step (lo2 := lo1 + 1) HS1.out nq hI (fun b hb => hb)
            go_roundg A2.length
            case measure => simp only [List.length_cons] at hg; omega
            case rel => exact ⟨_, _, lo1 + 1, A2, Nat.le_refl _, by omega, h5, HR.out.symm.trans Hrun.out, Ho1.out.trans (h6.mono (by simp)), fun b hb => Hbs.out b hb⟩
          · have hI : IntsAre wr A2 (.slice (some ⟨gb, off + 1, none⟩) A2.length (cap1 - 1)) := IntsAre.mk Hr.out.tail1 rfl
            obtain ⟨h5, h6⟩ := seen_step (lo2 := lo1 + 1) HS1.out nq hI (fun b hb => hb)
            go_roundg A2.length
            case measure => simp only [List.length_cons] at hg; omega
            case rel => exact ⟨_, _, lo1 + 1, A2, Nat.le_refl _, by omega, h5, HR.out.symm.trans Hrun.out, Ho1.out.trans (h6.mono (by simp)), fun b hb => Hbs.out b hb⟩
        · have hq : (a == lo1) = false := by simpa using hal
          have HR : Hid (runL lo1 (a :: A2) = (lo1, a :: A2)) := by show runL lo1 (a :: A2) = (lo1, a :: A2); rw [runL, if_neg hal]
          have Hfin := Lib.hid fin
          clear fin hrun hS1 ho1 hbs hg hr hal
          go_wp2_with fail
          go_quiet (fail)
          go_wp2_with fail
          go_ret
          exact ⟨by rw [ht]; rfl, Hfin.out _ ((Only.refl _ _).drewN _) HR.out⟩

end Go.Proofs.Ytaldaaihkpckoaa
