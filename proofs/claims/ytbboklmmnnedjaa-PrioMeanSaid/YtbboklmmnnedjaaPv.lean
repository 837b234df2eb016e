/- Package prio, walked: Close, of no more than are kept. -/
import Derived.Test.YtbboklmmnnedjaaPu
import Derived.Test.YtbboklmmnnedjaaMv
set_option linter.unusedVariables false
set_option linter.unusedSimpArgs false
namespace Go.Proofs.Ytbboklmmnnedjaa
open Go.RowKit Go.Mk Go.Pr
attribute [-go_sem] Builtin.append_

theorem info_kept : ∃ i, Try.prog.info? 33 = some i ∧ i.zero = some (.agg #[.int .i64 0, .int .u64 0, .int .u64 0]) ∧ i.size = 3 ∧ i.bytes = 24 := by
  obtain ⟨i0, hi, hz0, hz1, hz2⟩ := info_parts (P := Try.prog) (e := 33) (z := .agg #[.int .i64 0, .int .u64 0, .int .u64 0]) (size := 3) (bytes := 24) (by kernel_rfl)
  exact ⟨i0, hi, hz0, hz1, hz2⟩

/-- One more is kept, told at the end of the row. -/
theorem kept_append {w : World} {xs : List (List Value)} {sv : Value} (h : SliceIs w 33 3 xs sv) (hl : xs.length ≤ 100000) (x : Kt) :
    ∃ g off cap' w', (Builtin.append_ #[29, 29] 29 #[sv, .slice (some ⟨w.heap.size, 0, none⟩) 1 1]).run Try.prog (w.alloc (.cells #[.int .i64 x.p, .int .u64 x.n, .int .u64 x.d] 33)) = .ok (.slice (some ⟨g, off, none⟩) (xs.length + 1) cap') w' ∧
      SliceIs w' 33 3 (xs ++ [encK x]) (.slice (some ⟨g, off, none⟩) (xs.length + 1) cap') ∧ Only (blockOf sv) w w' ∧ (g ∈ blockOf sv ∨ w.heap.size ≤ g) := by
  obtain ⟨i0, hi0, hz0, hz1, hz2⟩ := info_kept
  exact row_append1 Try.underlying29 hi0 hz0 hz1 hz2 rfl (by decide) h hl #[.int .i64 x.p, .int .u64 x.n, .int .u64 x.d] rfl (by simp [Value.oneCell'])

def lightK (o : Of) : Kt := ⟨o.p, o.w, 1⟩

set_option maxRecDepth 100000 in
set_option maxHeartbeats 2000000 in
theorem close_few {w : World} {hp keep draws many : Nat} {S : List Of} {sv : Value} (h : SamplerAt w hp keep draws many S sv) (hf : S.length ≤ keep) :
    Calls Try.prog 12 #[.pointer (some ⟨hp, 0, none⟩)] w fun e w' => ∃ M rv, e = .returned rv ∧ SliceIs w' 33 3 (M.map encK) rv ∧ List.Perm M (S.map lightK) ∧ M.Pairwise (fun a b => a.p ≤ b.p) ∧
      SamplerAt w' hp keep draws 0 [] (.slice none 0 0) ∧ Only [hp] w w' ∧ (∀ b ∈ blockOf rv, w.heap.size ≤ b) := by
  have Hs := Lib.hid h
  obtain ⟨L, hL, hH, hP⟩ := h.body
  have hLS : L.length = S.length := hP.length_eq
  have hk2 := h.keep2
  have hshort := h.short
  obtain ⟨p, cap, hsv⟩ := hL.sl.form
  rw [List.length_map] at hsv
  have c0 := hL.c0
  have c1 : w.cell? ⟨hp, 1, none⟩ = some (.int .i64 keep) := by rw [cell_of_blk hL.blk]; simp
  have hlt := lt_of_blk hL.blk
  have g1 : decide ((keep : Int) < (L.length : Int)) = false := decide_eq_false (by omega)
  have g1' : decide (keep < L.length) = false := decide_eq_false (by omega)
  have hsl := hL.sl
  subst hsv
  have HL := Lib.hid hL
  have HP := Lib.hid hP
  have HLS := Lib.hid hLS
  clear hL hP hLS hH h
  have hn : L.length ≤ 1000 := by have := HLS.out; omega
  go_enter Try.func12, Try.ntmps12
  go_wp2_with fail
  go_quiet (fail)
  go_wp2_with fail
  obtain ⟨w1, hw1⟩ : ∃ w1, w1 = ((w.alloc (.cells #[Value.slice p L.length cap] 52)).drewN nq).alloc (.cells #[.int .u64 0, .int .u64 0, .int .i64 0] 56) := ⟨_, rfl⟩
  rw [← hw1]
  have o1 : Only [] w w1 := by rw [hw1]; exact (((Only.refl _ _).alloc _).drewN _).alloc _
  have Ho1 := Lib.hid o1
  have hs1 : SliceIs w1 56 3 (L.map encO) (.slice p L.length cap) := hsl.only o1 (by simp)
  have Hs1 := Lib.hid hs1
  have Hw1 := Lib.hid hw1
  have hlt1 : hp < w1.heap.size := o1.lt hlt
  clear hw1 o1 hs1 hsl c0 c1
  go_loopw [3, 30] (fun ov iv wr => ∃ i : Nat, iv = .int .i64 i ∧ i ≤ L.length ∧ SliceIs wr 33 3 (((L.take i).map lightK).map encK) ov ∧ (∀ b ∈ blockOf ov, w1.heap.size ≤ b) ∧ Only [] w1 wr) (fun _ iv _ => L.length - (intOf iv).toNat)
  case atStart => exact ⟨0, rfl, Nat.zero_le _, .nil, by simp [blockOf], Only.refl _ _⟩
  case round =>
    obtain ⟨i, rfl, hi, hov, hbo, ow⟩ := hrel
    by_cases hil : i < L.length
    · obtain ⟨o, ho⟩ : ∃ o, L[i]? = some o := ⟨_, List.getElem?_eq_getElem hil⟩
      obtain ⟨g, off, rfl, hr⟩ : ∃ g off, p = some ⟨g, off, none⟩ ∧ RowMem wr 56 3 (L.map encO) g off cap := by
        have hs2 := Hs1.out.only ow (by simp)
        generalize hxs : L.map encO = xs at hs2
        generalize hV : Value.slice p L.length cap = V at hs2
        cases hs2 with
        | nil =>
          have := congrArg List.length hxs
          rw [List.length_map] at this
          simp at this
          rw [this] at hil
          simp at hil
        | @row _ g off cap2 hr =>
          obtain ⟨h5, _, h7⟩ := Value.slice.inj hV
          subst h7 h5
          exact ⟨g, off, rfl, hr⟩
      have hio : (L.map encO)[i]? = some (encO o) := by rw [List.getElem?_map, ho]; rfl
      have k0 : wr.cell? ⟨g, off + i * 3, none⟩ = some (.int .u64 o.w) := hr.cell (f := 0) hio rfl
      have k1 : wr.cell? ⟨g, off + i * 3 + 1, none⟩ = some (.int .u64 o.d) := hr.cell (f := 1) hio rfl
      have k2 : wr.cell? ⟨g, off + i * 3 + 2, none⟩ = some (.int .i64 o.p) := hr.cell (f := 2) hio rfl
      have hgl := hr.lt
      obtain ⟨q, cap3, hovf⟩ := hov.form
      have oW : Only [] wr ((wr.alloc (.cells #[.int .u64 o.w, .int .u64 o.d, .int .i64 o.p] 56)).alloc (.cells #[.int .i64 o.p, .int .u64 o.w, .int .u64 1] 33)) := ((Only.refl _ _).alloc _).alloc _
      have hlen : (((L.take i).map lightK).map encK).length = i := by simp; omega
      obtain ⟨g2, off2, cap2, w3, hap, hsl3, o3, hg2⟩ := kept_append (hov.only oW (by simp)) (by rw [hlen]; omega) (lightK o)
      rw [hlen] at hap hsl3
      have hl2 : (lightK o).p = o.p := rfl
      simp only [lightK] at hap
      rw [show ((1 : Nat) : Int) = 1 from rfl] at hap
      have hz : ((wr.alloc (.cells #[.int .u64 o.w, .int .u64 o.d, .int .i64 o.p] 56)).alloc (.cells #[.int .i64 o.p, .int .u64 o.w, .int .u64 1] 33)).heap.size = wr.heap.size + 1 + 1 := by simp
      rw [hz] at hap
      have htk : ((L.take (i + 1)).map lightK).map encK = ((L.take i).map lightK).map encK ++ [encK (lightK o)] := by
        rw [List.take_add_one, ho]; simp
      rw [← htk] at hsl3
      have hb3 : ∀ b ∈ blockOf (.slice (some ⟨g2, off2, none⟩) (i + 1) cap2), w1.heap.size ≤ b := by
        intro b hb
        simp only [blockOf, List.mem_singleton] at hb
        subst hb
        have h1 := oW.size
        have h2 := ow.size
        rcases hg2 with h3 | h3
        · exact hbo _ h3
        · omega
      have Hb3 := Lib.hid hb3
      have Hov := Lib.hid hov
      have Hsl3 := Lib.hid hsl3
      have Ho3 := Lib.hid ((ow.trans oW).trans' o3 (fun x hx hlt => by
        have := hbo x hx
        omega))
      rw [hlen] at hovf
      subst hovf
      clear oW hov hsl3 o3 hb3 htk hz hg2 hbo hlen
      go_wp2_with fail
      go_roundw
      case rel => exact ⟨i + 1, by go_num, by omega, Hsl3.out, Hb3.out, Ho3.out⟩
      case measure => simp [intOf]; omega
    · have hie : i = L.length := by omega
      subst hie
      rw [List.take_length] at hov
      have Hov := Lib.hid hov
      have Hbo := Lib.hid hbo
      have hpt : ∀ x ∈ L.map lightK, x.p ≤ topP := by
        intro x hx
        obtain ⟨o, ho, rfl⟩ := List.mem_map.1 hx
        have := Hs.out.places o (HP.out.mem_iff.1 ho)
        simp only [lightK, topP]
        omega
      have cS := sort_kept hov hpt (by simp; omega)
      have HcS := Lib.hid cS
      clear cS hov hbo hpt
      go_wp2_with fail
      refine HcS.out.mono ?_
      rintro e w2 ⟨rfl, M, hM, hpw, hsM, o2⟩
      have hblk1 := (Ho1.out.trans ow).blk HL.out.blk (by simp)
      have hpn : hp ∉ blockOf u3 := fun hm => by have := Hbo.out _ hm; omega
      have hblk2 := o2.blk hblk1 hpn
      have c0 : w2.cell? ⟨hp, 0, none⟩ = some (.slice p L.length cap) := by rw [cell_of_blk hblk2]; rfl
      have c3 : w2.cell? ⟨hp, 3, none⟩ = some (.int .i64 many) := by rw [cell_of_blk hblk2]; rfl
      have fz0 : w2.frozen? ⟨hp, 0, none⟩ = false := frozen_of_blk hblk2
      have fz3 : w2.frozen? ⟨hp, 3, none⟩ = false := frozen_of_blk hblk2
      have oE := (Ho1.out.trans ow).trans' o2 (fun x hx hlt => by have := Hbo.out x hx; have := Ho1.out.size; omega)
      have HE := Lib.hid (And.intro hM (And.intro hpw (And.intro hsM (And.intro oE hblk2))))
      clear hM hpw hsM oE hblk2 hblk1 o2
      go_wp2_with fail
      go_ret
      obtain ⟨hM, hpw, hsM, oE, hblk2⟩ := HE.out
      have o5 : Only [hp] w2 ((w2.setCell ⟨hp, 0, none⟩ (.slice none 0 0)).setCell ⟨hp, 3, none⟩ (.int .i64 0)) := ((Only.refl _ _).setCell (.inl (by simp)) _).setCell (.inl (by simp)) _
      refine ⟨M, u3, rfl, hsM.only o5 (fun b hb => by have := Hbo.out b hb; simp only [List.mem_singleton]; omega), hM.trans (HP.out.map _), hpw, ?_, (oE.mono (by simp)).trans o5, fun b hb => Nat.le_trans Ho1.out.size (Hbo.out b hb)⟩
      refine ⟨⟨[], ⟨?_, .nil, by simp [blockOf], by simp⟩, by intro k h0 hk; simp at hk, List.Perm.refl _⟩, List.Pairwise.nil, by simp, by simp, Hs.out.keep1, Hs.out.keep2, Hs.out.draws64, by omega⟩
      rw [setCell_blk (setCell_blk hblk2)]
      rfl

end Go.Proofs.Ytbboklmmnnedjaa
