/- Package prio, walked: Close, of one more than are kept. -/
import Derived.Test.YtbboklmmnnedjaaPv
set_option linter.unusedVariables false
set_option linter.unusedSimpArgs false
namespace Go.Proofs.Ytbboklmmnnedjaa
open Go.RowKit Go.Mk Go.Pr
attribute [-go_sem] Builtin.append_

def countK (draws : Nat) (bar o : Of) : Kt := ⟨o.p, (countN draws o bar).1, (countN draws o bar).2⟩

set_option maxRecDepth 100000 in
set_option maxHeartbeats 2000000 in
theorem close_full {w : World} {hp keep draws many : Nat} {bar : Of} {S : List Of} {sv : Value} (h : SamplerAt w hp keep draws many (bar :: S) sv) (hf : S.length = keep) :
    Calls Try.prog 12 #[.pointer (some ⟨hp, 0, none⟩)] w fun e w' => ∃ M rv, e = .returned rv ∧ SliceIs w' 33 3 (M.map encK) rv ∧ List.Perm M (S.map (countK draws bar)) ∧ M.Pairwise (fun a b => a.p ≤ b.p) ∧
      SamplerAt w' hp keep draws 0 [] (.slice none 0 0) ∧ Only (hp :: blockOf sv) w w' ∧ (∀ b ∈ blockOf rv, w.heap.size ≤ b) := by
  have Hs := Lib.hid h
  obtain ⟨L, hL, hH, hP⟩ := h.body
  have hLS : L.length = keep + 1 := by rw [hP.length_eq, List.length_cons, hf]
  have hk1 := h.keep1
  have hk2 := h.keep2
  have hshort := h.short
  have h0 : L[0]? = some bar := head_least hP h.sorted hH
  obtain ⟨p, cap, hsv⟩ := hL.sl.form
  rw [List.length_map] at hsv
  have c0 := hL.c0
  have c1 : w.cell? ⟨hp, 1, none⟩ = some (.int .i64 keep) := by rw [cell_of_blk hL.blk]; simp
  have hlt := lt_of_blk hL.blk
  have g1 : decide ((keep : Int) < (L.length : Int)) = true := decide_eq_true (by omega)
  have g1' : decide (keep < L.length) = true := decide_eq_true (by omega)
  have hsl := hL.sl
  have hfar := hL.far
  subst hsv
  have HL := Lib.hid hL
  have HP := Lib.hid hP
  have HLS := Lib.hid hLS
  have HH := Lib.hid hH
  have H0 := Lib.hid h0
  clear hL hP hLS hH h h0
  have hta := assert_offer
  go_enter Try.func12, Try.ntmps12
  go_wp2_with fail
  go_quiet (fail)
  go_wp2_with fail
  obtain ⟨w1, hw1⟩ : ∃ w1, w1 = ((w.alloc (.cells #[Value.slice p L.length cap] 52)).drewN nq).alloc (.cells #[.int .u64 0, .int .u64 0, .int .i64 0] 56) := ⟨_, rfl⟩
  rw [← hw1]
  have oa : Only [] w ((w.alloc (.cells #[Value.slice p L.length cap] 52)).drewN nq) := ((Only.refl _ _).alloc _).drewN _
  have o1 : Only [] w w1 := by rw [hw1]; exact oa.alloc _
  have hsz1 : ((w.alloc (.cells #[Value.slice p L.length cap] 52)).drewN nq).heap.size = w.heap.size + 1 := by simp [World.drewN]
  have bl : w1.heap[w.heap.size]? = some (.cells #[Value.slice p L.length cap] 52 (0, 0)) := by
    rw [hw1]
    exact ((((Only.refl [] _).drewN _).alloc _)).blk (heap_alloc_new w _) (by simp)
  have bb : w1.heap[w.heap.size + 1]? = some (.cells #[.int .u64 0, .int .u64 0, .int .i64 0] 56 (0, 0)) := by
    have h1 := heap_alloc_new ((w.alloc (.cells #[Value.slice p L.length cap] 52)).drewN nq) (.cells #[.int .u64 0, .int .u64 0, .int .i64 0] 56)
    rw [hsz1] at h1
    rw [hw1]
    exact h1
  have hs1 : SliceIs w1 56 3 (L.map encO) (.slice p L.length cap) := hsl.only o1 (by simp)
  have hsvlt := hsl.lt
  have hA : LeastAt w1 w.heap.size [] 52 (.slice p L.length cap) L := ⟨bl, hs1, fun hm => by have := hsvlt _ hm; omega, HL.out.ok⟩
  refine (heap_pop hA HH.out H0.out (by have := HLS.out; omega) (by have := HLS.out; omega)).mono ?_
  rintro e w2 ⟨rfl, sv2, L2, hL2, hH2, hP2, o2, hbs⟩
  have hLS2 : L2.length = keep := by have h1 := hP2.length_eq; have h2 := HLS.out; rw [List.length_cons] at h1; omega
  obtain ⟨p2, cap2, hsv2⟩ := hL2.sl.form
  rw [List.length_map] at hsv2
  subst hsv2
  have bb2 := o2.blk bb (by
    intro hm
    rcases List.mem_cons.1 hm with he | hm
    · omega
    · have := hsvlt _ hm; omega)
  have d0 : w2.cell? ⟨w.heap.size + 1, 0, none⟩ = some (.int .u64 0) := by rw [cell_of_blk bb2]; rfl
  have d1 : w2.cell? ⟨w.heap.size + 1, 1, none⟩ = some (.int .u64 0) := by rw [cell_of_blk bb2]; rfl
  have d2 : w2.cell? ⟨w.heap.size + 1, 2, none⟩ = some (.int .i64 0) := by rw [cell_of_blk bb2]; rfl
  have fb : ∀ i, w2.frozen? ⟨w.heap.size + 1, i, none⟩ = false := fun i => frozen_of_blk bb2
  have cl : w2.cell? ⟨w.heap.size, 0, none⟩ = some (.slice p2 L2.length cap2) := hL2.c0
  have hlt2 : w.heap.size + 1 < w2.heap.size := lt_of_blk bb2
  have HX := Lib.hid (And.intro o1 (And.intro hL2 (And.intro hP2 (And.intro o2 (And.intro hbs (And.intro bb2 (And.intro hLS2 hsvlt)))))))
  clear oa o1 hsz1 bl bb hs1 hsvlt hA hL2 hH2 hP2 o2 hbs bb2 hLS2 hw1 hsl c0 c1
  unfold ofV
  go_wp2_with fail
  obtain ⟨o1, hL2, hP2, o2, hbs, bb2, hLS2, hsvlt⟩ := HX.out
  obtain ⟨w3, hw3⟩ : ∃ w3, w3 = ((w2.setCell ⟨w.heap.size + 1, 0, none⟩ (.int .u64 bar.w)).setCell ⟨w.heap.size + 1, 1, none⟩ (.int .u64 bar.d)).setCell ⟨w.heap.size + 1, 2, none⟩ (.int .i64 bar.p) := ⟨_, rfl⟩
  rw [← hw3]
  have o23 : Only [w.heap.size + 1] w2 w3 := by rw [hw3]; exact ((((Only.refl _ _).setCell (.inl (by simp)) _).setCell (.inl (by simp)) _).setCell (.inl (by simp)) _)
  have hs2 : SliceIs w3 56 3 (L2.map encO) (.slice p2 L2.length cap2) := hL2.sl.only o23 (by
    intro b hb
    rw [hbs] at hb
    have := hsvlt b hb
    simp only [List.mem_singleton]
    omega)
  have hbar : w3.heap[w.heap.size + 1]? = some (.cells #[.int .u64 bar.w, .int .u64 bar.d, .int .i64 bar.p] 56 (0, 0)) := by
    rw [hw3, setCell_blk (setCell_blk (setCell_blk bb2))]; rfl
  have o03 : Only (blockOf (.slice p L.length cap)) w w3 := ((o1.mono (by simp)).trans' o2 (fun x hx hl => by
    rcases List.mem_cons.1 hx with rfl | hx
    · omega
    · exact hx)).trans' o23 (fun x hx hl => by simp only [List.mem_singleton] at hx; omega)
  have hhp := o03.blk HL.out.blk hfar
  have hdr : draws < big := Hs.out.draws64
  have hok2 : ∀ o ∈ L2, OfOk o := fun o ho => HL.out.ok o (hP2.mem_iff.1 (List.mem_cons_of_mem _ ho))
  have hokb : OfOk bar := HL.out.ok bar (hP2.mem_iff.1 (List.mem_cons_self))
  have hS2 : L2.Perm S := List.Perm.cons_inv (hP2.trans HP.out)
  have hhp3 : hp < w3.heap.size := lt_of_blk hhp
  have hwb3 : w.heap.size + 1 < w3.heap.size := lt_of_blk hbar
  have HY := Lib.hid (And.intro hs2 (And.intro hbar (And.intro o03 (And.intro hhp (And.intro hok2 (And.intro hokb (And.intro hS2 (And.intro hsvlt hLS2))))))))
  have hn : L2.length ≤ 1000 := by omega
  clear o1 hL2 hP2 o2 hbs bb2 hLS2 o23 hs2 hbar o03 hhp hw3 hok2 hokb hS2 HX d0 d1 d2 fb cl hsvlt
  go_loopw [3, 30] (fun ov iv wr => ∃ i : Nat, iv = .int .i64 i ∧ i ≤ L2.length ∧ SliceIs wr 33 3 (((L2.take i).map (countK draws bar)).map encK) ov ∧ (∀ b ∈ blockOf ov, w3.heap.size ≤ b) ∧ Only [] w3 wr) (fun _ iv _ => L2.length - (intOf iv).toNat)
  case atStart => exact ⟨0, rfl, Nat.zero_le _, .nil, by simp [blockOf], Only.refl _ _⟩
  case round =>
    obtain ⟨i, rfl, hi, hov, hbo, ow⟩ := hrel
    by_cases hil : i < L2.length
    · obtain ⟨o, ho⟩ : ∃ o, L2[i]? = some o := ⟨_, List.getElem?_eq_getElem hil⟩
      obtain ⟨g, off, rfl, hr⟩ : ∃ g off, p2 = some ⟨g, off, none⟩ ∧ RowMem wr 56 3 (L2.map encO) g off cap2 := by
        have hs2 := HY.out.1.only ow (by simp)
        generalize hxs : L2.map encO = xs at hs2
        generalize hV : Value.slice p2 L2.length cap2 = V at hs2
        cases hs2 with
        | nil =>
          have := congrArg List.length hxs
          rw [List.length_map] at this
          simp at this
          rw [this] at hil
          simp at hil
        | @row _ g off cap2 hr =>
          obtain ⟨h5, _, h7⟩ := Value.slice.inj hV
          subst h7 h5
          exact ⟨g, off, rfl, hr⟩
      have hio : (L2.map encO)[i]? = some (encO o) := by rw [List.getElem?_map, ho]; rfl
      have k0 : wr.cell? ⟨g, off + i * 3, none⟩ = some (.int .u64 o.w) := hr.cell (f := 0) hio rfl
      have k1 : wr.cell? ⟨g, off + i * 3 + 1, none⟩ = some (.int .u64 o.d) := hr.cell (f := 1) hio rfl
      have k2 : wr.cell? ⟨g, off + i * 3 + 2, none⟩ = some (.int .i64 o.p) := hr.cell (f := 2) hio rfl
      have hgl := hr.lt
      obtain ⟨q, cap3, hovf⟩ := hov.form
      have hlen : (((L2.take i).map (countK draws bar)).map encK).length = i := by simp; omega
      rw [hlen] at hovf
      subst hovf
      have hbw := ow.blk HY.out.2.1 (by simp)
      have hhw := ow.blk HY.out.2.2.2.1 (by simp)
      have b0 : wr.cell? ⟨w.heap.size + 1, 0, none⟩ = some (.int .u64 bar.w) := by rw [cell_of_blk hbw]; rfl
      have b1 : wr.cell? ⟨w.heap.size + 1, 1, none⟩ = some (.int .u64 bar.d) := by rw [cell_of_blk hbw]; rfl
      have b2 : wr.cell? ⟨w.heap.size + 1, 2, none⟩ = some (.int .i64 bar.p) := by rw [cell_of_blk hbw]; rfl
      have hwl : w.heap.size + 1 < wr.heap.size := ow.lt hwb3
      have hhl : hp < wr.heap.size := ow.lt hhp3
      have hne1 : ¬ w.heap.size = wr.heap.size := by omega
      have hne2 : ¬ w.heap.size + 1 = wr.heap.size := by omega
      have hne3 : w.heap.size < wr.heap.size := by omega
      obtain ⟨W2, hW2⟩ : ∃ W2, W2 = (wr.alloc (.cells #[.int .u64 o.w, .int .u64 o.d, .int .i64 o.p] 56)).alloc (.cells #[.int .i64 o.p, .int .u64 o.w, .int .u64 1] 33) := ⟨_, rfl⟩
      have oW : Only [] wr W2 := by rw [hW2]; exact ((Only.refl _ _).alloc _).alloc _
      have bk : W2.heap[wr.heap.size + 1]? = some (.cells #[.int .i64 o.p, .int .u64 o.w, .int .u64 1] 33 (0, 0)) := by
        have h1 := heap_alloc_new (wr.alloc (.cells #[.int .u64 o.w, .int .u64 o.d, .int .i64 o.p] 56)) (.cells #[.int .i64 o.p, .int .u64 o.w, .int .u64 1] 33)
        rw [show (wr.alloc (.cells #[.int .u64 o.w, .int .u64 o.d, .int .i64 o.p] 56)).heap.size = wr.heap.size + 1 by simp] at h1
        rw [hW2]
        exact h1
      have cC := counts_walk hp draws o bar (w := W2) (by rw [cell_of_blk (oW.blk hhw (by simp))]; rfl) (HY.out.2.2.2.2.1 o (List.mem_of_getElem? ho)) HY.out.2.2.2.2.2.1 hdr
      have HcC := Lib.hid cC
      have HZ := Lib.hid (And.intro oW (And.intro bk (And.intro hov (And.intro hbo (And.intro hlen (And.intro ho (And.intro hhw hbw)))))))
      clear cC oW bk hov hbo hlen ho hio hhw hbw
      unfold ofV at HcC
      go_wp2_with fail
      rw [← hW2]
      refine HcC.out.mono ?_
      rintro e w4 ⟨rfl, o4⟩
      obtain ⟨oW, bk, hov, hbo, hlen, ho, hhw, hbw⟩ := HZ.out
      have bk4 := o4.blk bk (by simp)
      have htk : ((L2.take (i + 1)).map (countK draws bar)).map encK = ((L2.take i).map (countK draws bar)).map encK ++ [encK (countK draws bar o)] := by
        rw [List.take_add_one, ho]; simp
      have hKe : countK draws bar o = ⟨o.p, (countN draws o bar).1, (countN draws o bar).2⟩ := rfl
      rw [hKe] at htk
      generalize (countN draws o bar).1 = n1 at *
      generalize (countN draws o bar).2 = n2 at *
      have e0 : w4.cell? ⟨wr.heap.size + 1, 0, none⟩ = some (.int .i64 o.p) := by rw [cell_of_blk bk4]; rfl
      have e1 : w4.cell? ⟨wr.heap.size + 1, 1, none⟩ = some (.int .u64 o.w) := by rw [cell_of_blk bk4]; rfl
      have e2 : w4.cell? ⟨wr.heap.size + 1, 2, none⟩ = some (.int .u64 1) := by rw [cell_of_blk bk4]; rfl
      have f0 : w4.frozen? ⟨wr.heap.size + 1, 0, none⟩ = false := frozen_of_blk bk4
      have f1 : w4.frozen? ⟨wr.heap.size + 1, 1, none⟩ = false := frozen_of_blk bk4
      have f2 : w4.frozen? ⟨wr.heap.size + 1, 2, none⟩ = false := frozen_of_blk bk4
      have e4l : wr.heap.size + 1 < w4.heap.size := lt_of_blk bk4
      have oA := oW.trans o4
      have o5 : Only [wr.heap.size + 1] w4 (((w4.setCell ⟨wr.heap.size + 1, 0, none⟩ (.int .i64 o.p)).setCell ⟨wr.heap.size + 1, 1, none⟩ (.int .u64 n1)).setCell ⟨wr.heap.size + 1, 2, none⟩ (.int .u64 n2)) := (((Only.refl _ _).setCell (.inl (by simp)) _).setCell (.inl (by simp)) _).setCell (.inl (by simp)) _
      have hovlt := hov.lt
      obtain ⟨g2, off2, cap4, w6, hap, hsl6, o6, hg2⟩ := kept_append ((hov.only oA (by simp)).only o5 (by
        intro b hb
        have := hovlt b hb
        simp only [List.mem_singleton]
        omega)) (by rw [hlen]; omega) ⟨o.p, n1, n2⟩
      rw [hlen, ← htk] at hsl6
      rw [hlen] at hap
      have hz : (((w4.setCell ⟨wr.heap.size + 1, 0, none⟩ (.int .i64 o.p)).setCell ⟨wr.heap.size + 1, 1, none⟩ (.int .u64 n1)).setCell ⟨wr.heap.size + 1, 2, none⟩ (.int .u64 n2)).heap.size = w4.heap.size := by simp
      rw [hz] at hap hg2
      have hb3 : ∀ b ∈ blockOf (.slice (some ⟨g2, off2, none⟩) (i + 1) cap4), w3.heap.size ≤ b := by
        intro b hb
        simp only [blockOf, List.mem_singleton] at hb
        subst hb
        have h1 := oA.size
        have h2 := ow.size
        rcases hg2 with h3 | h3
        · exact hbo _ h3
        · omega
      have oE : Only [] w3 w6 := ((ow.trans oA).trans' o5 (fun x hx hl => by
        simp only [List.mem_singleton] at hx
        have := ow.size
        omega)).trans' o6 (fun x hx hl => by
          have := hbo x hx
          omega)
      have HE := Lib.hid (And.intro hsl6 (And.intro hb3 oE))
      clear HZ oW bk hov hbo hlen ho hhw hbw bk4 htk hKe oA o5 hovlt hsl6 hz hb3 oE o6 hg2 HcC o4 hW2
      go_wp2_with fail
      go_roundw
      case rel => exact ⟨i + 1, by go_num, by omega, HE.out.1, HE.out.2.1, HE.out.2.2⟩
      case measure => simp [intOf]; omega
    · have hie : i = L2.length := by omega
      subst hie
      rw [List.take_length] at hov
      obtain ⟨hs2, hbar, o03, hhp, hok2, hokb, hS2, hsvlt, hLS2⟩ := HY.out
      have hpt : ∀ x ∈ L2.map (countK draws bar), x.p ≤ topP := by
        intro x hx
        obtain ⟨o, ho, rfl⟩ := List.mem_map.1 hx
        have := Hs.out.places o (List.mem_cons_of_mem _ (hS2.mem_iff.1 ho))
        simp only [countK, topP]
        omega
      have cS := sort_kept hov hpt (by simp; omega)
      have HcS := Lib.hid cS
      have Hbo := Lib.hid hbo
      clear cS hov hpt hs2 hbar o03 hhp hok2 hokb hS2 hsvlt hbo
      go_wp2_with fail
      refine HcS.out.mono ?_
      rintro e w4 ⟨rfl, M, hM, hpw, hsM, o4⟩
      obtain ⟨hs2, hbar, o03, hhp, hok2, hokb, hS2, hsvlt, hLS2'⟩ := HY.out
      have hpn : hp ∉ blockOf u3 := fun hm => by have := Hbo.out _ hm; omega
      have hblk2 := o4.blk (ow.blk hhp (by simp)) hpn
      have c0 : w4.cell? ⟨hp, 0, none⟩ = some (.slice p L.length cap) := by rw [cell_of_blk hblk2]; rfl
      have c3 : w4.cell? ⟨hp, 3, none⟩ = some (.int .i64 many) := by rw [cell_of_blk hblk2]; rfl
      have fz0 : w4.frozen? ⟨hp, 0, none⟩ = false := frozen_of_blk hblk2
      have fz3 : w4.frozen? ⟨hp, 3, none⟩ = false := frozen_of_blk hblk2
      have o3s := o03.size
      have oE : Only (blockOf (.slice p L.length cap)) w w4 := (o03.trans' ow (by simp)).trans' o4 (fun x hx hlt => by have := Hbo.out x hx; omega)
      have HE := Lib.hid (And.intro hM (And.intro hpw (And.intro hsM (And.intro oE (And.intro hblk2 (And.intro hS2 (And.intro o3s hsvlt)))))))
      clear hM hpw hsM oE hblk2 o4 hs2 hbar o03 hhp hok2 hokb hS2 hsvlt
      go_wp2_with fail
      go_ret
      obtain ⟨hM, hpw, hsM, oE, hblk2, hS2, o3s, hsvlt⟩ := HE.out
      have o5 : Only [hp] w4 ((w4.setCell ⟨hp, 0, none⟩ (.slice none 0 0)).setCell ⟨hp, 3, none⟩ (.int .i64 0)) := ((Only.refl _ _).setCell (.inl (by simp)) _).setCell (.inl (by simp)) _
      refine ⟨M, u3, rfl, hsM.only o5 (fun b hb => by have := Hbo.out b hb; simp only [List.mem_singleton]; omega), hM.trans (hS2.map _), hpw, ?_, (oE.mono (fun x hx _ => List.mem_cons_of_mem _ hx)).trans' o5 (by simp), fun b hb => Nat.le_trans o3s (Hbo.out b hb)⟩
      refine ⟨⟨[], ⟨?_, .nil, by simp [blockOf], by simp⟩, by intro k h0 hk; simp at hk, List.Perm.refl _⟩, List.Pairwise.nil, by simp, by simp, Hs.out.keep1, Hs.out.keep2, Hs.out.draws64, by omega⟩
      rw [setCell_blk (setCell_blk hblk2)]
      rfl

end Go.Proofs.Ytbboklmmnnedjaa
