/- TailKnows: the law, walked. -/
import Derived.Test.YtcppnmogdmpdbaaKx
import Derived.Deep.DeepCutAuto
namespace Go.Proofs.Ytcppnmogdmpdbaa
open Go.RowKit Go.Mk Go.Hp
attribute [-go_sem] Builtin.append_

theorem bool_facts (q : Nat) (kb : Bool) (h : kb = decide (q = 0)) : ((q : Int) == 0) = kb ∧ decide ((q : Int) = 0) = kb ∧ (q == 0) = kb := by
  subst h
  refine ⟨?_, ?_, ?_⟩
  · by_cases h : q = 0
    · subst h; rfl
    · rw [decide_eq_false h]; simp; omega
  · by_cases h : q = 0
    · subst h; rfl
    · rw [decide_eq_false h]; exact decide_eq_false (by omega)
  · by_cases h : q = 0
    · subst h; rfl
    · rw [decide_eq_false h]; simp; omega

set_option maxRecDepth 100000 in
set_option maxHeartbeats 8000000 in
theorem knows_walk (a0 : Int) (a : Option Addr) (len cap : Nat) (w : World) (w0 : 0 ≤ a0 ∧ a0 ≤ 255) (h : Deeds13 w a len) :
    Calls Try.prog 13 #[.int .u8 a0, .slice a len cap] w fun e w' => e = .returned (.bool true) ∧ Only [] w w' := by
  have HC := Lib.hid h.cell
  have hl := h.top
  obtain ⟨c, hc⟩ : ∃ c : Nat, a0 % 5 = c := ⟨(a0 % 5).toNat, by omega⟩
  have hc5 : (c : Int) < 5 := by omega
  have hc0 : (0 : Int) ≤ c := by omega
  have hlm : (len : Int) ≤ 9223372036854775807 := by simp only [maxLen] at hl; omega
  have htc : a0.tmod 5 = c := by rw [Int.tmod_eq_emod_of_nonneg w0.1]; exact hc
  obtain ⟨w00, w01⟩ := w0
  clear h hl hc
  by_cases h60 : 60 < len
  · have g1 : decide (60 < (len : Int)) = true := decide_eq_true (by omega)
    go_enter Try.func13, Try.ntmps13
    go_wp2_with fail
    refine (kobj_new 10 5 (1 + (c : Int)) (by omega) (by omega) (by omega) (by omega) (by omega) (by omega)).mono ?_
    rintro e w1 ⟨tp, rfl, h1⟩
    have H1 := Lib.hid h1.out
    clear h1
    go_wp2_with fail
    refine (known13 _).mono ?_
    rintro e w2 ⟨rfl, o2⟩
    have H2 := Lib.hid (H1.out.trans o2)
    clear o2 H1
    go_wp2_with fail
    go_ret
    exact ⟨rfl, H2.out⟩
  have g1 : decide (60 < (len : Int)) = false := decide_eq_false (by omega)
  go_enter Try.func13, Try.ntmps13
  go_wp2_with fail
  refine (kobj_new 10 5 (1 + (c : Int)) (by omega) (by omega) (by omega) (by omega) (by omega) (by omega)).mono ?_
  rintro e w1 ⟨tp, rfl, h1⟩
  have H1 := Lib.hid h1
  clear h1
  have hcast : 1 + (c : Int) = ((1 + c : Nat) : Int) := by omega
  have Hcast := Lib.hid hcast
  clear hcast
  go_wp2_with fail
  go_loopw [7, 8, 9, 10, 11, 12] (fun sL iv _ _ _ _ wr => ∃ (i : Nat) (sv : Value) (LD : List De), iv = .int .i64 i ∧ i ≤ len ∧ sv = sL ∧ LD.length ≤ i ∧ (∀ d ∈ LD, DeOk d) ∧ ((LD.map De.dec).map (·.1)).Nodup ∧ SliceIs wr 74 4 (LD.map encD) sv ∧ (∀ x ∈ blockOf sv, w.heap.size ≤ x) ∧ KObj w (blockOf sv) wr tp 10 5 (1 + (c : Int)) 0 0 (lastK (1 + c) (LD.map De.dec)) []) (fun _ iv _ _ _ _ _ => len - (intOf iv).toNat)
  case atStart => exact ⟨0, .slice none 0 0, [], rfl, by omega, rfl, by simp, by simp, by simp, .nil, by simp [blockOf], by rw [show lastK (1 + c) (([] : List De).map De.dec) = [] by simp [lastK]]; exact H1.out⟩
  case round =>
    clear H1
    obtain ⟨i, sv, LD, rfl, hi, rfl, hLD, hok, hnd, hsl, hsb, hK⟩ := hrel
    obtain ⟨sp, sc, hsv⟩ := hsl.form
    rw [List.length_map] at hsv
    subst hsv
    by_cases hil : i < len
    · have g2 : decide (i < len) = true := decide_eq_true hil
      obtain ⟨b, off, rfl, hbw, hcell⟩ := HC.out (by omega)
      obtain ⟨x, y, z, u, hx, hy, hz, hu, cx, cy, cz, cu⟩ := hcell i hil
      obtain ⟨d, hd⟩ : ∃ d : De, d = ⟨x, y, z, u⟩ := ⟨_, rfl⟩
      have hdok : DeOk d := by rw [hd]; exact ⟨hx, hy, hz, hu⟩
      have HcW : Hid (w.cell? ⟨b, off + i * 4, none⟩ = some (.int .u8 d.x) ∧ w.cell? ⟨b, off + i * 4 + 1, none⟩ = some (.int .u8 d.y) ∧ w.cell? ⟨b, off + i * 4 + 2, none⟩ = some (.int .u8 d.z) ∧ w.cell? ⟨b, off + i * 4 + 3, none⟩ = some (.int .u8 d.u)) := Lib.hid (by rw [hd]; exact ⟨cx, cy, cz, cu⟩)
      clear cx cy cz cu hx hy hz hu hd hcell x y z u
      have ox := hK.out
      have cx := ox.cell HcW.out.1 (by simp)
      have cy := ox.cell HcW.out.2.1 (by simp)
      have cz := ox.cell HcW.out.2.2.1 (by simp)
      have cu := ox.cell HcW.out.2.2.2 (by simp)
      have hbr : b < wr.heap.size := ox.lt hbw
      have HOf := Lib.hid (of_walk d.x d.y d.z d.u wr hdok.z hdok.u)
      have Hdok := Lib.hid hdok
      have Hok := Lib.hid hok
      have Hnd := Lib.hid hnd
      have Hsl := Lib.hid hsl
      have Hsb := Lib.hid hsb
      have HK := Lib.hid hK
      clear hdok hok hnd hsl hsb hK ox
      go_wp2_with fail
      refine HOf.out.mono ?_
      rintro e w3 ⟨rfl, o3⟩
      obtain ⟨s, hs⟩ : ∃ s, s = ofSp d.z d.u := ⟨_, rfl⟩
      have Hstr : Hid (s.tr = d.tr) := Lib.hid (by rw [hs]; rfl)
      rw [← hs]
      simp only [Sp.arr]
      clear HOf cx cy cz cu hs
      have oa := (Only.refl [] w3).alloc (.cells #[.int .u64 s.tr.1, .int .u64 s.tr.2, .int .u64 s.id, .int .u64 s.par, .string s.nm, .int .i64 s.st, .int .i64 s.en, .bool s.bad, .slice none 0 0, .int .u64 s.rv] 65)
      have B9 := heap_alloc_new w3 (.cells #[.int .u64 s.tr.1, .int .u64 s.tr.2, .int .u64 s.id, .int .u64 s.par, .string s.nm, .int .i64 s.st, .int .i64 s.en, .bool s.bad, .slice none 0 0, .int .u64 s.rv] 65)
      have hK4 : KObj w (w3.heap.size :: blockOf (.slice sp LD.length sc)) (w3.alloc (.cells #[.int .u64 s.tr.1, .int .u64 s.tr.2, .int .u64 s.id, .int .u64 s.par, .string s.nm, .int .i64 s.st, .int .i64 s.en, .bool s.bad, .slice none 0 0, .int .u64 s.rv] 65)) tp 10 5 (1 + (c : Int)) 0 0 (lastK (1 + c) (LD.map De.dec)) [] :=
        (HK.out.only o3 (by simp) (by simp)).swap oa (by simp) (by simp) (fun x hx => (List.mem_cons.1 hx).elim (fun h => .inr (by omega)) (fun h => .inl h)) (fun x hx => (List.mem_cons.1 hx).elim (fun h => by rw [h]; simp) (fun h => (o3.trans oa).lt (Hsl.out.lt x h)))
      have Hsl4 := Lib.hid ((Hsl.out.only o3 (by simp)).only oa (by simp))
      have HB9 := Lib.hid B9
      have HK4 := Lib.hid hK4
      have Hb9n : Hid (∀ x ∈ blockOf (.slice sp LD.length sc), x ≠ w3.heap.size) := Lib.hid (fun x hx => by have := o3.lt (Hsl.out.lt x hx); omega)
      have Hb9w : Hid (w.heap.size ≤ w3.heap.size) := Lib.hid (HK.out.out.trans o3).size
      clear o3 oa B9 hK4 HK Hsl
      go_upto_region 10 with fail
      generalize w3.alloc (.cells #[.int .u64 s.tr.1, .int .u64 s.tr.2, .int .u64 s.id, .int .u64 s.par, .string s.nm, .int .i64 s.st, .int .i64 s.en, .bool s.bad, .slice none 0 0, .int .u64 s.rv] 65) = w4 at *
      generalize w3.heap.size = b9 at *
      rw [Hstr.out] at HB9
      have k0 : w4.cell? ⟨b9, 0, none⟩ = some (.int .u64 d.tr.1) := by rw [cell_of_blk HB9.out]; rfl
      have k1 : w4.cell? ⟨b9, 1, none⟩ = some (.int .u64 d.tr.2) := by rw [cell_of_blk HB9.out]; rfl
      have hb9 := lt_of_blk HB9.out
      have cu := HK4.out.out.cell HcW.out.2.2.2 (by simp)
      have hb4 : b < w4.heap.size := HK4.out.out.lt hbw
      obtain ⟨q, hq⟩ : ∃ q : Nat, d.u % 2 = q := ⟨(d.u % 2).toNat, by have := Hdok.out.u; omega⟩
      have hu2 : d.u.tmod 2 = q := by rw [Int.tmod_eq_emod_of_nonneg Hdok.out.u.1]; exact hq
      have hq2 : (q : Int) < 2 := by omega
      have hu0 : 0 ≤ d.u := Hdok.out.u.1
      have hu255 : d.u ≤ 255 := Hdok.out.u.2
      obtain ⟨kb, hkb⟩ : ∃ kb, kb = d.keep := ⟨_, rfl⟩
      have hkq : kb = decide (q = 0) := by
        rw [hkb]
        unfold De.keep
        rw [hq]
        by_cases h0 : q = 0
        · subst h0; rfl
        · rw [decide_eq_false h0]; exact decide_eq_false (by omega)
      obtain ⟨f1, f2, f3⟩ := bool_facts q kb hkq
      have CD := Lib.hid (kobj_Decide (HK4.out.only (Only.drew (Only.refl [] w4)) (by simp) (by simp)) d.tr.1 d.tr.2 kb (by omega))
      have Hkb := Lib.hid hkb
      clear hkq hq hkb
      go_cut [] (fun wx => KObj w (b9 :: blockOf (.slice sp LD.length sc)) wx tp 10 5 (1 + (c : Int)) 0 0 (decK (d.tr.1, d.tr.2) kb (1 + (c : Int)) (lastK (1 + c) (LD.map De.dec))) [] ∧ ∀ x ∈ b9 :: blockOf (.slice sp LD.length sc), wx.heap[x]? = w4.heap[x]?)
      case first =>
        go_region_with (go_at_call 37; go_must (refine CD.out.mono ?_; rintro e w5 ⟨rfl, h5, hk5⟩; have HD := Lib.hid (And.intro h5 hk5); clear h5 hk5))
        all_goals (go_wp2_with fail; go_meet)
        all_goals exact HD.out
      case rest =>
        obtain ⟨hK5, hk5⟩ := hcut
        have hdec : decK (d.tr.1, d.tr.2) kb (1 + (c : Int)) (lastK (1 + c) (LD.map De.dec)) = lastK (1 + c) ((nextD d LD).map De.dec) := by
          rw [Hkb.out, Hcast.out, next_dec]
          exact deck_last Hnd.out d.tr d.keep
        rw [hdec] at hK5
        have Hsl5 := Lib.hid (keep_row Hsl4.out (fun x hx => hk5 x (List.mem_cons_of_mem _ hx)))
        have HB9 : Hid (wc.heap[b9]? = _) := Lib.hid ((hk5 b9 (by simp)).trans HB9.out)
        have HK5 := Lib.hid hK5
        clear hK5 hk5 hdec k0 k1 hb9 cu hb4 hu2 hq2 hu0 hu255 f1 f2 f3 CD Hsl4 HK4 Hkb
        go_wp2_with fail
        obtain ⟨K2, hK2⟩ : ∃ K2, K2 = lastK (1 + c) ((nextD d LD).map De.dec) := ⟨_, rfl⟩
        rw [← hK2] at HK5
        have HK2 := Lib.hid hK2
        clear hK2
        have hLD60 : (LD.length : Int) ≤ 60 := by omega
        go_loopw [10, 11, 12] (fun sN kv _ wr => ∃ (k : Nat) (nv : Value) (NL : List De), kv = .int .i64 k ∧ k ≤ LD.length ∧ nv = sN ∧ NL = (LD.take k).filter (fun e => decide (e.tr ≠ d.tr)) ∧ SliceIs wr 74 4 (NL.map encD) nv ∧ SliceIs wr 74 4 (LD.map encD) (.slice sp LD.length sc) ∧
          wr.heap[b9]? = some (.cells #[.int .u64 d.tr.1, .int .u64 d.tr.2, .int .u64 s.id, .int .u64 s.par, .string s.nm, .int .i64 s.st, .int .i64 s.en, .bool s.bad, .slice none 0 0, .int .u64 s.rv] 65 (0, 0)) ∧ KObj w (b9 :: (blockOf (.slice sp LD.length sc) ++ blockOf nv)) wr tp 10 5 (1 + (c : Int)) 0 0 K2 [] ∧ (∀ x ∈ blockOf nv, w.heap.size ≤ x ∧ x ≠ b9 ∧ x ∉ blockOf (.slice sp LD.length sc))) (fun _ kv _ _ => LD.length - (intOf kv).toNat)
        case atStart =>
          refine ⟨0, .slice none 0 0, [], rfl, by omega, rfl, by simp, .nil, Hsl5.out, HB9.out, ?_, by simp [blockOf]⟩
          rw [show blockOf (.slice none 0 0) = [] from rfl, List.append_nil]
          exact HK5.out
        case round =>
          clear Hsl5 HB9 HK5
          obtain ⟨k, nv, NL, rfl, hk, rfl, hNL, hnl, hsl, hB9, hK, hnb⟩ := hrel
          obtain ⟨np, nc, hnv⟩ := hnl.form
          rw [List.length_map] at hnv
          subst hnv
          have hNLl : NL.length ≤ LD.length := by rw [hNL]; exact Nat.le_trans (List.length_filter_le ..) (by rw [List.length_take]; omega)
          by_cases hkl : k < LD.length
          · have g3 : decide (k < LD.length) = true := decide_eq_true hkl
            obtain ⟨e, he⟩ : ∃ e, LD[k]? = some e := ⟨_, List.getElem?_eq_getElem hkl⟩
            have heok := Hok.out e (List.mem_of_getElem? he)
            obtain ⟨gb, go, hg, hgl, ex, ey, ez, eu⟩ := row_deed hsl he
            subst hg
            have HOf := Lib.hid (of_walk e.x e.y e.z e.u wr heok.z heok.u)
            have Hstep : Hid ((LD.take (k + 1)).filter (fun e => decide (e.tr ≠ d.tr)) = NL ++ if e.tr = d.tr then [] else [e]) := Lib.hid (by
              rw [List.take_add_one, he, List.filter_append, ← hNL]
              congr 1
              by_cases h : e.tr = d.tr
              · simp [h]
              · simp [h])
            have HNL := Lib.hid hNL
            have Hnl := Lib.hid hnl
            have Hsl := Lib.hid hsl
            have HB9 := Lib.hid hB9
            have HK := Lib.hid hK
            have Hnb := Lib.hid hnb
            have He := Lib.hid he
            clear he heok hNL hnl hsl hB9 hK hnb
            go_wp2_with fail
            refine HOf.out.mono ?_
            rintro e3 w7 ⟨rfl, o7⟩
            obtain ⟨sx, hsx⟩ : ∃ sx, sx = ofSp e.z e.u := ⟨_, rfl⟩
            have hsxt : sx.tr = e.tr := by rw [hsx]; rfl
            rw [← hsx]
            simp only [Sp.arr, hsxt]
            clear hsx hsxt HOf
            have oa := (Only.refl [] w7).alloc (.cells #[.int .u64 e.tr.1, .int .u64 e.tr.2, .int .u64 sx.id, .int .u64 sx.par, .string sx.nm, .int .i64 sx.st, .int .i64 sx.en, .bool sx.bad, .slice none 0 0, .int .u64 sx.rv] 65)
            have hBx := heap_alloc_new w7 (.cells #[.int .u64 e.tr.1, .int .u64 e.tr.2, .int .u64 sx.id, .int .u64 sx.par, .string sx.nm, .int .i64 sx.st, .int .i64 sx.en, .bool sx.bad, .slice none 0 0, .int .u64 sx.rv] 65)
            have O8 := Lib.hid (o7.trans oa)
            have HBx := Lib.hid hBx
            clear o7 oa hBx ex ey ez eu
            go_upto_region 16 with fail
            generalize w7.alloc (.cells #[.int .u64 e.tr.1, .int .u64 e.tr.2, .int .u64 sx.id, .int .u64 sx.par, .string sx.nm, .int .i64 sx.st, .int .i64 sx.en, .bool sx.bad, .slice none 0 0, .int .u64 sx.rv] 65) = w8 at *
            generalize w7.heap.size = bx at *
            have HK8 := Lib.hid (HK.out.only O8.out (by simp) (by simp))
            have Hsl8 := Lib.hid (Hsl.out.only O8.out (by simp))
            have Hnl8 := Lib.hid (Hnl.out.only O8.out (by simp))
            have HB98 := Lib.hid (O8.out.blk HB9.out (by simp))
            have k0 : w8.cell? ⟨b9, 0, none⟩ = some (.int .u64 d.tr.1) := by rw [cell_of_blk HB98.out]; rfl
            have k1 : w8.cell? ⟨b9, 1, none⟩ = some (.int .u64 d.tr.2) := by rw [cell_of_blk HB98.out]; rfl
            have l0 : w8.cell? ⟨bx, 0, none⟩ = some (.int .u64 e.tr.1) := by rw [cell_of_blk HBx.out]; rfl
            have l1 : w8.cell? ⟨bx, 1, none⟩ = some (.int .u64 e.tr.2) := by rw [cell_of_blk HBx.out]; rfl
            have hb98 := lt_of_blk HB98.out
            have hbx8 := lt_of_blk HBx.out
            clear HK Hsl Hnl HB9 HBx O8
            by_cases heq : e.tr = d.tr
            · rw [heq] at l0 l1
              have hst := Hstep.out
              rw [if_pos heq, List.append_nil] at hst
              have Hst := Lib.hid hst
              clear hst heq
              go_wp2_with fail
              go_roundw
              case rel => exact ⟨k + 1, _, NL, by go_num, by omega, rfl, Hst.out.symm, Hnl8.out, Hsl8.out, HB98.out, HK8.out, Hnb.out⟩
              case measure => simp [intOf]; omega
            · have hst := Hstep.out
              rw [if_neg heq] at hst
              have Hst := Lib.hid hst
              obtain ⟨g', off', hg', _, ex, ey, ez, eu⟩ := row_deed Hsl8.out He.out
              cases hg'
              obtain ⟨g, off2, cap2, w9, hap, hsl9, o9, hg9⟩ := deed_append Hnl8.out (by omega) e
              have hgl8 : gb < w8.heap.size := by
                have h1 := Hsl8.out.lt gb (by simp [blockOf])
                exact h1
              have hb9n : b9 ∉ blockOf (.slice np NL.length nc) := fun hm => (Hnb.out b9 hm).2.1 rfl
              have hsn : ∀ x ∈ blockOf (.slice (some ⟨gb, go, none⟩) LD.length sc), x ∉ blockOf (.slice np NL.length nc) := fun x hx hm => (Hnb.out x hm).2.2 hx
              have hw8 := HK8.out.out.size
              have hgn : w.heap.size ≤ g ∧ g ≠ b9 ∧ g ∉ blockOf (.slice (some ⟨gb, go, none⟩) LD.length sc) := by
                rcases hg9 with h1 | h1
                · exact Hnb.out g h1
                · exact ⟨by omega, fun h => by omega, fun h => by have := Hsl8.out.lt g h; omega⟩
              have hK9 : KObj w (b9 :: (blockOf (.slice (some ⟨gb, go, none⟩) LD.length sc) ++ blockOf (.slice (some ⟨g, off2, none⟩) (NL.length + 1) cap2))) w9 tp 10 5 (1 + (c : Int)) 0 0 K2 [] := by
                refine HK8.out.swap o9 (fun x hx => List.mem_cons_of_mem _ (List.mem_append_right _ hx)) (fun x hx => (Hnb.out x hx).1) (fun x hx => ?_) (fun x hx => ?_)
                · rcases List.mem_cons.1 hx with rfl | hx
                  · exact .inl (by simp)
                  · rcases List.mem_append.1 hx with hx | hx
                    · exact .inl (List.mem_cons_of_mem _ (List.mem_append_left _ hx))
                    · simp only [blockOf, List.mem_singleton] at hx
                      rw [hx]
                      exact hg9.imp (fun h => List.mem_cons_of_mem _ (List.mem_append_right _ h)) id
                · rcases List.mem_cons.1 hx with rfl | hx
                  · exact o9.lt hb98
                  · rcases List.mem_append.1 hx with hx | hx
                    · exact o9.lt (Hsl8.out.lt x hx)
                    · exact hsl9.lt x hx
              have hfin : NL ++ [e] = (LD.take (k + 1)).filter (fun e => decide (e.tr ≠ d.tr)) ∧ SliceIs w9 74 4 ((NL ++ [e]).map encD) (.slice (some ⟨g, off2, none⟩) (NL.length + 1) cap2) ∧ SliceIs w9 74 4 (LD.map encD) (.slice (some ⟨gb, go, none⟩) LD.length sc) ∧
                  w9.heap[b9]? = some (.cells #[.int .u64 d.tr.1, .int .u64 d.tr.2, .int .u64 s.id, .int .u64 s.par, .string s.nm, .int .i64 s.st, .int .i64 s.en, .bool s.bad, .slice none 0 0, .int .u64 s.rv] 65 (0, 0)) ∧ (∀ x ∈ blockOf (.slice (some ⟨g, off2, none⟩) (NL.length + 1) cap2), w.heap.size ≤ x ∧ x ≠ b9 ∧ x ∉ blockOf (.slice (some ⟨gb, go, none⟩) LD.length sc)) :=
                ⟨Hst.out.symm, hsl9, Hsl8.out.only o9 hsn, o9.blk HB98.out hb9n, fun x hx => by simp only [blockOf, List.mem_singleton] at hx; rw [hx]; exact hgn⟩
              have HK9 := Lib.hid hK9
              have Hfin := Lib.hid hfin
              have hcs : ¬ e.tr.1 = d.tr.1 ∨ (e.tr.1 = d.tr.1 ∧ ¬ e.tr.2 = d.tr.2) := by
                by_cases h1 : e.tr.1 = d.tr.1
                · exact .inr ⟨h1, fun h2 => heq (Prod.ext h1 h2)⟩
                · exact .inl h1
              clear hsl9 o9 hg9 hb9n hsn hgn hK9 hfin heq hst Hst Hstep HNL HK8 Hsl8 Hnl8 HB98 hw8
              rcases hcs with hc1 | ⟨hc1, hc2⟩
              · have c1 : decide (e.tr.1 = d.tr.1) = false := decide_eq_false hc1
                have c2 : (e.tr.1 != d.tr.1) = true := by simp [hc1]
                go_wp2_with fail
                go_roundw
                case rel => exact ⟨k + 1, _, NL ++ [e], by go_num, by omega, rfl, Hfin.out.1, Hfin.out.2.1, Hfin.out.2.2.1, Hfin.out.2.2.2.1, HK9.out, Hfin.out.2.2.2.2⟩
                case measure => simp [intOf]; omega
              · rw [hc1] at l0
                have c1 : decide (e.tr.2 = d.tr.2) = false := decide_eq_false hc2
                have c2 : (e.tr.2 != d.tr.2) = true := by simp [hc2]
                clear hc1
                go_wp2_with fail
                go_roundw
                case rel => exact ⟨k + 1, _, NL ++ [e], by go_num, by omega, rfl, Hfin.out.1, Hfin.out.2.1, Hfin.out.2.2.1, Hfin.out.2.2.2.1, HK9.out, Hfin.out.2.2.2.2⟩
                case measure => simp [intOf]; omega
          · have g3 : decide (k < LD.length) = false := decide_eq_false hkl
            have hk2 : k = LD.length := by omega
            have hnext : NL ++ [d] = nextD d LD := by rw [hNL, hk2, List.take_length]; rfl
            have ox := hK.out
            have cx := ox.cell HcW.out.1 (by simp)
            have cy := ox.cell HcW.out.2.1 (by simp)
            have cz := ox.cell HcW.out.2.2.1 (by simp)
            have cu := ox.cell HcW.out.2.2.2 (by simp)
            have hbr2 : b < wr.heap.size := ox.lt hbw
            obtain ⟨g, off2, cap2, w9, hap, hsl9, o9, hg9⟩ := deed_append hnl (by omega) d
            rw [hnext] at hsl9
            have hNl : NL.length + 1 = (nextD d LD).length := by rw [← hnext, List.length_append, List.length_singleton]
            rw [hNl] at hap hsl9
            have hK9 : KObj w (blockOf (.slice (some ⟨g, off2, none⟩) (nextD d LD).length cap2)) w9 tp 10 5 (1 + (c : Int)) 0 0 K2 [] := by
              refine hK.swap o9 (fun x hx => List.mem_cons_of_mem _ (List.mem_append_right _ hx)) (fun x hx => (hnb x hx).1) (fun x hx => ?_) (fun x hx => hsl9.lt x hx)
              simp only [blockOf, List.mem_singleton] at hx
              rw [hx]
              exact hg9.imp (fun h => List.mem_cons_of_mem _ (List.mem_append_right _ h)) id
            have hgw : w.heap.size ≤ g := hg9.elim (fun h => (hnb g h).1) (fun h => Nat.le_trans ox.size h)
            have hnd2 : (((nextD d LD).map De.dec).map (·.1)).Nodup := by rw [next_dec]; exact more_nodup Hnd.out
            have hok2 : ∀ e ∈ nextD d LD, DeOk e := by
              intro e he
              unfold nextD at he
              rcases List.mem_append.1 he with he | he
              · exact Hok.out e (List.mem_filter.1 he).1
              · rw [List.mem_singleton.1 he]; exact Hdok.out
            have hfin : (nextD d LD).length ≤ i + 1 ∧ (∀ d2 ∈ nextD d LD, DeOk d2) ∧ (((nextD d LD).map De.dec).map (·.1)).Nodup ∧ SliceIs w9 74 4 ((nextD d LD).map encD) (.slice (some ⟨g, off2, none⟩) (nextD d LD).length cap2) ∧ (∀ x ∈ blockOf (.slice (some ⟨g, off2, none⟩) (nextD d LD).length cap2), w.heap.size ≤ x) ∧ KObj w (blockOf (.slice (some ⟨g, off2, none⟩) (nextD d LD).length cap2)) w9 tp 10 5 (1 + (c : Int)) 0 0 (lastK (1 + c) ((nextD d LD).map De.dec)) [] :=
              ⟨by omega, hok2, hnd2, hsl9, fun x hx => by simp only [blockOf, List.mem_singleton] at hx; rw [hx]; exact hgw, by rw [← HK2.out]; exact hK9⟩
            have Hfin := Lib.hid hfin
            clear hNL hnl hsl hB9 hK hnb hk2 hnext ox hsl9 o9 hg9 hNl hK9 hgw hnd2 hok2 hfin
            generalize nextD d LD = LD2 at *
            go_wp2_with fail
            go_roundw
            case rel => exact ⟨i + 1, _, LD2, by go_num, by omega, rfl, Hfin.out.1, Hfin.out.2.1, Hfin.out.2.2.1, Hfin.out.2.2.2.1, Hfin.out.2.2.2.2.1, Hfin.out.2.2.2.2.2⟩
            case measure => simp [intOf]; omega
    · have g2 : decide (i < len) = false := decide_eq_false hil
      have Hok := Lib.hid hok
      have Hnd := Lib.hid hnd
      have Hsl := Lib.hid hsl
      have HK := Lib.hid hK
      have hLD60 : (LD.length : Int) ≤ 60 := by omega
      clear hok hnd hsl hsb hK
      go_wp2_with fail
      go_loopw [13, 14, 15, 16, 17] (fun kv _ _ _ _ wr => ∃ k : Nat, kv = .int .i64 k ∧ k ≤ LD.length ∧ SliceIs wr 74 4 (LD.map encD) (.slice sp LD.length sc) ∧ KObj w (blockOf (.slice sp LD.length sc)) wr tp 10 5 (1 + (c : Int)) 0 0 (lastK (1 + c) (LD.map De.dec)) []) (fun kv _ _ _ _ _ => LD.length - (intOf kv).toNat)
      case atStart => exact ⟨0, rfl, by omega, Hsl.out, HK.out⟩
      case round =>
        clear Hsl HK
        obtain ⟨k, rfl, hk, hsl, hK⟩ := hrel
        by_cases hkl : k < LD.length
        · have g3 : decide (k < LD.length) = true := decide_eq_true hkl
          obtain ⟨e, he⟩ : ∃ e, LD[k]? = some e := ⟨_, List.getElem?_eq_getElem hkl⟩
          have heok := Hok.out e (List.mem_of_getElem? he)
          obtain ⟨gb, go, hg, hgl, ex, ey, ez, eu⟩ := row_deed hsl he
          subst hg
          have HOf := Lib.hid (of_walk e.x e.y e.z e.u wr heok.z heok.u)
          obtain ⟨q, hq⟩ : ∃ q : Nat, e.u % 2 = q := ⟨(e.u % 2).toNat, by have := heok.u; omega⟩
          have hu2 : e.u.tmod 2 = q := by rw [Int.tmod_eq_emod_of_nonneg heok.u.1]; exact hq
          have hq2 : (q : Int) < 2 := by omega
          have hu0 : 0 ≤ e.u := heok.u.1
          have hu255 : e.u ≤ 255 := heok.u.2
          obtain ⟨kb, hkb⟩ : ∃ kb, kb = e.keep := ⟨_, rfl⟩
          have hkq : kb = decide (q = 0) := by
            rw [hkb]
            unfold De.keep
            rw [hq]
            by_cases h0 : q = 0
            · subst h0; rfl
            · rw [decide_eq_false h0]; exact decide_eq_false (by omega)
          obtain ⟨f1, f2, f3⟩ := bool_facts q kb hkq
          have hkn := last_known (n := 1 + c) (i := k) (t := e.tr) (kp := kb) Hnd.out (by rw [List.getElem?_map, he, hkb]; rfl)
          rw [List.length_map] at hkn
          have Hkn := Lib.hid hkn
          have Hsl := Lib.hid hsl
          have HK := Lib.hid hK
          have He := Lib.hid he
          clear he heok hsl hK hq hkb hkq hkn
          go_wp2_with fail
          refine HOf.out.mono ?_
          rintro e3 w7 ⟨rfl, o7⟩
          obtain ⟨sx, hsx⟩ : ∃ sx, sx = ofSp e.z e.u := ⟨_, rfl⟩
          have hsxt : sx.tr = e.tr := by rw [hsx]; rfl
          rw [← hsx]
          simp only [Sp.arr, hsxt]
          clear hsx hsxt HOf
          have oa := (Only.refl [] w7).alloc (.cells #[.int .u64 e.tr.1, .int .u64 e.tr.2, .int .u64 sx.id, .int .u64 sx.par, .string sx.nm, .int .i64 sx.st, .int .i64 sx.en, .bool sx.bad, .slice none 0 0, .int .u64 sx.rv] 65)
          have hBx := heap_alloc_new w7 (.cells #[.int .u64 e.tr.1, .int .u64 e.tr.2, .int .u64 sx.id, .int .u64 sx.par, .string sx.nm, .int .i64 sx.st, .int .i64 sx.en, .bool sx.bad, .slice none 0 0, .int .u64 sx.rv] 65)
          have O8 := Lib.hid (o7.trans oa)
          have HBx := Lib.hid hBx
          clear o7 oa hBx ex ey ez eu
          go_upto_region 24 with fail
          generalize w7.alloc (.cells #[.int .u64 e.tr.1, .int .u64 e.tr.2, .int .u64 sx.id, .int .u64 sx.par, .string sx.nm, .int .i64 sx.st, .int .i64 sx.en, .bool sx.bad, .slice none 0 0, .int .u64 sx.rv] 65) = w8 at *
          generalize w7.heap.size = bx at *
          have HK8 := Lib.hid (HK.out.only O8.out (by simp) (by simp))
          have Hsl8 := Lib.hid (Hsl.out.only O8.out (by simp))
          have l0 : w8.cell? ⟨bx, 0, none⟩ = some (.int .u64 e.tr.1) := by rw [cell_of_blk HBx.out]; rfl
          have l1 : w8.cell? ⟨bx, 1, none⟩ = some (.int .u64 e.tr.2) := by rw [cell_of_blk HBx.out]; rfl
          have hbx8 := lt_of_blk HBx.out
          clear HK Hsl HBx O8
          go_wp2_with fail
          refine (kobj_Known HK8.out e.tr.1 e.tr.2).mono ?_
          rintro e4 w9 ⟨rfl, o9⟩
          have HK9 := Lib.hid (HK8.out.only o9 (by simp) (by simp))
          have Hsl9 := Lib.hid (Hsl8.out.only o9 (by simp))
          have hkn2 : knownK (lastK (1 + c) (LD.map De.dec)) (e.tr.1, e.tr.2) = if LD.length ≤ k + (1 + c) then (kb, true) else (false, false) := Hkn.out
          rw [hkn2]
          obtain ⟨g', off', hg', _, ex, ey, ez, eu⟩ := row_deed Hsl9.out He.out
          cases hg'
          have hgl9 : gb < w9.heap.size := Hsl9.out.lt gb (by simp [blockOf])
          clear o9 HK8 Hsl8 l0 l1 hbx8 hkn2 Hkn
          by_cases hin : LD.length ≤ k + (1 + c)
          · rw [if_pos hin]
            have d1 : decide ((LD.length : Int) - (1 + (c : Int)) ≤ (k : Int)) = true := decide_eq_true (by omega)
            simp only
            go_wp2_with fail
            go_roundw
            case rel => exact ⟨k + 1, by go_num, by omega, Hsl9.out, HK9.out⟩
            case measure => simp [intOf]; omega
          · rw [if_neg hin]
            have d1 : decide ((LD.length : Int) - (1 + (c : Int)) ≤ (k : Int)) = false := decide_eq_false (by omega)
            simp only
            go_wp2_with fail
            go_roundw
            case rel => exact ⟨k + 1, by go_num, by omega, Hsl9.out, HK9.out⟩
            case measure => simp [intOf]; omega
        · have g3 : decide (k < LD.length) = false := decide_eq_false hkl
          have HK := Lib.hid hK
          clear hsl hK
          go_wp2_with fail
          refine (known13 _).mono ?_
          rintro e w2 ⟨rfl, o2⟩
          have H2 := Lib.hid (HK.out.out.trans o2)
          clear o2 HK
          go_wp2_with fail
          go_ret
          exact ⟨rfl, H2.out⟩

end Go.Proofs.Ytcppnmogdmpdbaa
