/- TailOnce: the law, walked. -/
import Derived.Test.YtcppnmogdmpdbaaKq
namespace Go.Proofs.Ytcppnmogdmpdbaa
open Go.RowKit Go.Mk Go.Hp
attribute [-go_sem] Builtin.append_

theorem not_ahead {L : List Int} {j : Nat} {x : Int} (hn : L.Nodup) (hx : L[j]? = some x) : x ∉ L.take j := by
  intro hm
  obtain ⟨q, hq⟩ := List.mem_iff_getElem?.1 hm
  rw [List.getElem?_take] at hq
  split at hq
  · rename_i hqj
    have h1 := (List.getElem?_eq_some_iff.1 hx)
    have h2 := (List.getElem?_eq_some_iff.1 hq)
    obtain ⟨l1, e1⟩ := h1
    obtain ⟨l2, e2⟩ := h2
    have := (List.nodup_iff_pairwise_ne.1 hn)
    exact List.pairwise_iff_getElem.1 this q j l2 l1 hqj (by rw [e1, e2])
  · cases hq
theorem take_more {L : List Int} {j : Nat} {x : Int} (hx : L[j]? = some x) : L.take (j + 1) = L.take j ++ [x] := by
  rw [List.take_add_one, hx]; rfl

set_option maxRecDepth 100000 in
set_option maxHeartbeats 8000000 in
theorem once_walk (a0 a1 : Int) (a : Option Addr) (len cap : Nat) (w : World) (w0 : 0 ≤ a0 ∧ a0 ≤ 255) (w1 : 0 ≤ a1 ∧ a1 ≤ 255) (h : Deeds13 w a len) :
    Calls Try.prog 9 #[.int .u8 a0, .int .u8 a1, .slice a len cap] w fun e w' => e = .returned (.bool true) ∧ Only [] w w' := by
  have HC := Lib.hid h.cell
  have hl := h.top
  obtain ⟨m, hm⟩ : ∃ m : Nat, a0 % 30 = m := ⟨(a0 % 30).toNat, by omega⟩
  obtain ⟨v, hv⟩ : ∃ v : Nat, a1 % 20 = v := ⟨(a1 % 20).toNat, by omega⟩
  have hm30 : (m : Int) < 30 := by omega
  have hm0 : (0 : Int) ≤ m := by omega
  have hv20 : (v : Int) < 20 := by omega
  have hv0 : (0 : Int) ≤ v := by omega
  have hlm : (len : Int) ≤ 9223372036854775807 := by simp only [maxLen] at hl; omega
  have htm : a0.tmod 30 = m := by rw [Int.tmod_eq_emod_of_nonneg w0.1]; exact hm
  have htv : a1.tmod 20 = v := by rw [Int.tmod_eq_emod_of_nonneg w1.1]; exact hv
  obtain ⟨w00, w01⟩ := w0
  obtain ⟨w10, w11⟩ := w1
  clear h hl hm hv
  by_cases h80 : 80 < len
  · have g1 : decide (80 < (len : Int)) = true := decide_eq_true (by omega)
    go_enter Try.func9, Try.ntmps9
    go_wp2_with fail
    refine (known13 _).mono ?_
    rintro e w2 ⟨rfl, o2⟩
    have H2 := Lib.hid o2
    clear o2
    go_wp2_with fail
    go_ret
    exact ⟨rfl, H2.out⟩
  have g1 : decide (80 < (len : Int)) = false := decide_eq_false (by omega)
  go_enter Try.func9, Try.ntmps9
  go_wp2_with fail
  refine (known13 _).mono ?_
  rintro e w1 ⟨rfl, o1⟩
  have O1 := Lib.hid o1
  clear o1
  go_wp2_with fail
  refine (town_new (1 + (m : Int)) (1 + (v : Int)) 1 (by omega) (by omega) (by omega) (by omega) (by omega) (by omega)).mono ?_
  rintro e w2 ⟨tp, rfl, h2⟩
  have H2 : Hid (TObj w [] w2 tp (1 + (m : Int)) (1 + (v : Int)) 1 0 0 (fun _ => none) []) := by
    obtain ⟨b, Fh, ov, Or, Q, q1, q2, q3, q4, q5, q6⟩ := h2
    exact ⟨b, Fh, ov, Or, Q, q1, q2, q3, O1.out.trans' q4 (by simp), fun x hx => ⟨Nat.le_trans O1.out.size (q5 x hx).1, by simp⟩, by simp⟩
  clear h2 O1
  go_wp2_with fail
  go_loopw [8, 9, 10, 11, 12, 13, 14, 15, 16] (fun nv sI sO kv _ _ _ _ _ wr => ∃ (i : Nat) (now came : Int) (I O : List Int) (A : List Ab) (iv ov : Value), kv = .int .i64 i ∧ i ≤ len ∧ nv = .int .i64 now ∧ iv = sI ∧ ov = sO ∧ 0 ≤ now ∧ now ≤ 5 * i ∧ came ≤ i ∧ Two w wr tp (1 + (m : Int)) (1 + (v : Int)) now came I O A iv ov ∧ OnceI i I O A) (fun _ _ _ kv _ _ _ _ _ _ => len - (intOf kv).toNat)
  case atStart => exact ⟨0, 0, 0, [], [], [], .slice none 0 0, .slice none 0 0, rfl, by omega, rfl, rfl, rfl, by omega, by omega, by omega, ⟨H2.out, .nil, .nil, by simp [blockOf], by simp [blockOf], by simp [blockOf]⟩, OnceI.start⟩
  case round =>
    clear H2
    obtain ⟨i, now, came, I, O, A, iv, ov, rfl, hi, rfl, rfl, rfl, hn0, hn1, hcame, hT, hP⟩ := hrel
    obtain ⟨ip, ic, hiv⟩ := hT.isl.form
    rw [List.length_map] at hiv
    subst hiv
    obtain ⟨op, oc, hov⟩ := hT.osl.form
    rw [List.length_map] at hov
    subst hov
    by_cases hil : i < len
    · have g2 : decide (i < len) = true := decide_eq_true hil
      obtain ⟨b, off, rfl, hbw, hcell⟩ := HC.out (by omega)
      obtain ⟨x, y, z, u, hx, hy, hz, hu, cx, cy, cz, cu⟩ := hcell i hil
      obtain ⟨r, hr⟩ : ∃ r : Nat, y % 5 = r := ⟨(y % 5).toNat, by omega⟩
      have hr5 : (r : Int) < 5 := by omega
      have hr0 : (0 : Int) ≤ r := by omega
      have hyr : y.tmod 5 = r := by rw [Int.tmod_eq_emod_of_nonneg hy.1]; exact hr
      have hx3 : x.tmod 3 = 0 ∨ x.tmod 3 = 1 ∨ x.tmod 3 = 2 := by rw [Int.tmod_eq_emod_of_nonneg hx.1]; omega
      have HcxW := Lib.hid cx
      replace cx := hT.obj.out.cell cx (by simp)
      replace cy := hT.obj.out.cell cy (by simp)
      replace cz := hT.obj.out.cell cz (by simp)
      replace cu := hT.obj.out.cell cu (by simp)
      have hbr : b < wr.heap.size := hT.obj.out.lt hbw
      have hOf := of_walk x y z u wr hz hu
      have HOf := Lib.hid hOf
      have HT := Lib.hid hT
      have HP := Lib.hid hP
      have Hcame := Lib.hid hcame
      have Hx3 := Lib.hid hx3
      obtain ⟨hy0, hy1⟩ := hy
      clear hT hP hcame hx3 hcell hx hz hu hr hOf
      go_wp2_with fail
      refine HOf.out.mono ?_
      rintro e w3 ⟨rfl, o3⟩
      obtain ⟨sp, hsp⟩ : ∃ sp, sp = ofSp z u := ⟨_, rfl⟩
      rw [← hsp]
      simp only [Sp.arr]
      clear HOf cx cy cz cu hyr hsp
      obtain ⟨s2, hs2⟩ : ∃ s2 : Sp, s2 = ⟨sp.tr, sp.id, sp.par, sp.nm, (i : Int), sp.en, sp.bad, sp.rv⟩ := ⟨_, rfl⟩
      have hs2i : s2.st = (i : Int) := by rw [hs2]
      have hagg : (#[.int .u64 sp.tr.1, .int .u64 sp.tr.2, .int .u64 sp.id, .int .u64 sp.par, .string sp.nm, .int .i64 i, .int .i64 sp.en, .bool sp.bad, .slice none 0 0, .int .u64 sp.rv] : Array Value) = s2.arr := by rw [hs2]; rfl
      have HT4 := Lib.hid ((HT.out.only o3).only ((Only.refl [] w3).alloc (.cells s2.arr 65)))
      have Hs2 := Lib.hid hs2i
      have Hagg := Lib.hid hagg
      clear o3 hagg hs2 hs2i HT
      go_wp2_with fail
      rw [Hagg.out]
      clear Hagg
      generalize w3.alloc (.cells s2.arr 65) = w4 at *
      have hlen := HP.out.len
      by_cases hfull : (spansA A : Int) < 1 + (m : Int)
      · refine (town_take HT4.out.obj (now + (r : Int)) s2 (by omega) (by omega) rfl hfull (by have := Hcame.out; omega)).mono ?_
        rintro e w5 ⟨rfl, h5, hk5⟩
        have T5 := HT4.out.call h5 hk5
        have hP1 := HP.out.take HT4.out.obj.num.1 came (now + (r : Int) + (1 + (v : Int))) Hs2.out
        obtain ⟨g, off2, cap2, w6, hap, T6⟩ := T5.addIn (by omega) (i : Int)
        have hcame1 := came_le A came s2.tr
        have Hcame1 : Hid (cameA A came s2.tr ≤ ((i + 1 : Nat) : Int)) := Lib.hid (by have := Hcame.out; omega)
        have hl2 : I.length + 1 = (I ++ [(i : Int)]).length := by rw [List.length_append, List.length_singleton]
        rw [hl2] at hap T6
        have hcx := T6.obj.out.cell HcxW.out (by simp)
        have hb6 : b < w6.heap.size := T6.obj.out.lt hbw
        have HT6 := Lib.hid T6
        have HP6 := Lib.hid hP1
        clear h5 hk5 T5 hP1 hcame1 hl2 T6 HT4 HP Hcame hfull Hs2
        generalize cameA A came s2.tr = came6 at *
        generalize takeA A came (now + (r : Int) + (1 + (v : Int))) s2 = A6 at *
        generalize I ++ [(i : Int)] = I6 at *
        rcases Hx3.out with hx3 | hx3 | hx3
        · have hlen6 := HP6.out.len
          have hsz6 := HP6.out.sizes
          go_wp2_with fail
          refine (town_Due HT6.out.obj (now + (r : Int)) (Int.le_refl _) (by omega)).mono ?_
          rintro e w7 ⟨p7, c7, G7, rfl, hG, h7, hk7⟩
          have T7 := HT6.out.call h7 hk7
          have hP7 := HP6.out.due (now + (r : Int))
          have hsd := starts_due_le (now + (r : Int)) A6
          have hdl := due_len_le (now + (r : Int)) A6
          have hfew := HP6.out.few
          have hris : ∀ a ∈ dueA (now + (r : Int)) A6, Rises a := fun a ha => HP6.out.rises a (due_sub _ _ a ha)
          generalize dueA (now + (r : Int)) A6 = D7 at *
          have HK := Lib.hid (taken_walk hG hris (by omega) (by omega))
          have HT7 := Lib.hid T7
          have HP7 := Lib.hid hP7
          have hM1 : O.length + (startsA D7).length ≤ 1000 := by omega
          clear hG h7 hk7 T7 hP7 hris hsd hdl hfew HT6 HP6 hcx hx3
          go_wp2_with fail
          refine HK.out.mono ?_
          rintro e w8 ⟨q8, c8, rfl, hM, o8, hb8⟩
          have T8 := HT7.out.only o8
          obtain ⟨g9, cap9, w9, hap9, T9⟩ := T8.addOut hM hM1
          have HT9 := Lib.hid T9
          clear hM o8 hb8 T8 T9 HK HT7 hM1
          go_wp2_with fail
          go_roundw
          case rel => exact ⟨i + 1, _, _, _, _, _, _, _, by go_num, by omega, rfl, rfl, rfl, by omega, by omega, Hcame1.out, HT9.out, HP7.out⟩
          case measure => simp [intOf]; omega
        · go_wp2_with fail
          go_roundw
          case rel => exact ⟨i + 1, _, _, _, _, _, _, _, by go_num, by omega, rfl, rfl, rfl, by omega, by omega, Hcame1.out, HT6.out, HP6.out⟩
          case measure => simp [intOf]; omega
        · go_wp2_with fail
          go_roundw
          case rel => exact ⟨i + 1, _, _, _, _, _, _, _, by go_num, by omega, rfl, rfl, rfl, by omega, by omega, Hcame1.out, HT6.out, HP6.out⟩
          case measure => simp [intOf]; omega
      · refine (town_full HT4.out.obj (now + (r : Int)) s2 (by omega) (by omega) rfl (by omega)).mono ?_
        rintro e w6 ⟨rfl, h5, hk5⟩
        have T6 := HT4.out.call h5 hk5
        have hP1 := HP.out.skip
        have Hcame1 : Hid (came ≤ ((i + 1 : Nat) : Int)) := Lib.hid (by have := Hcame.out; omega)
        have hcx := T6.obj.out.cell HcxW.out (by simp)
        have hb6 : b < w6.heap.size := T6.obj.out.lt hbw
        have HT6 := Lib.hid T6
        have HP6 := Lib.hid hP1
        clear h5 hk5 hP1 T6 HT4 HP Hcame hfull Hs2
        generalize A = A6 at *
        generalize came = came6 at *
        generalize I = I6 at *
        rcases Hx3.out with hx3 | hx3 | hx3
        · have hlen6 := HP6.out.len
          have hsz6 := HP6.out.sizes
          go_wp2_with fail
          refine (town_Due HT6.out.obj (now + (r : Int)) (Int.le_refl _) (by omega)).mono ?_
          rintro e w7 ⟨p7, c7, G7, rfl, hG, h7, hk7⟩
          have T7 := HT6.out.call h7 hk7
          have hP7 := HP6.out.due (now + (r : Int))
          have hsd := starts_due_le (now + (r : Int)) A6
          have hdl := due_len_le (now + (r : Int)) A6
          have hfew := HP6.out.few
          have hris : ∀ a ∈ dueA (now + (r : Int)) A6, Rises a := fun a ha => HP6.out.rises a (due_sub _ _ a ha)
          generalize dueA (now + (r : Int)) A6 = D7 at *
          have HK := Lib.hid (taken_walk hG hris (by omega) (by omega))
          have HT7 := Lib.hid T7
          have HP7 := Lib.hid hP7
          have hM1 : O.length + (startsA D7).length ≤ 1000 := by omega
          clear hG h7 hk7 T7 hP7 hris hsd hdl hfew HT6 HP6 hcx hx3
          go_wp2_with fail
          refine HK.out.mono ?_
          rintro e w8 ⟨q8, c8, rfl, hM, o8, hb8⟩
          have T8 := HT7.out.only o8
          obtain ⟨g9, cap9, w9, hap9, T9⟩ := T8.addOut hM hM1
          have HT9 := Lib.hid T9
          clear hM o8 hb8 T8 T9 HK HT7 hM1
          go_wp2_with fail
          go_roundw
          case rel => exact ⟨i + 1, _, _, _, _, _, _, _, by go_num, by omega, rfl, rfl, rfl, by omega, by omega, Hcame1.out, HT9.out, HP7.out⟩
          case measure => simp [intOf]; omega
        · go_wp2_with fail
          go_roundw
          case rel => exact ⟨i + 1, _, _, _, _, _, _, _, by go_num, by omega, rfl, rfl, rfl, by omega, by omega, Hcame1.out, HT6.out, HP6.out⟩
          case measure => simp [intOf]; omega
        · go_wp2_with fail
          go_roundw
          case rel => exact ⟨i + 1, _, _, _, _, _, _, _, by go_num, by omega, rfl, rfl, rfl, by omega, by omega, Hcame1.out, HT6.out, HP6.out⟩
          case measure => simp [intOf]; omega
    · have g2 : decide (i < len) = false := decide_eq_false hil
      have hil2 : i = len := by omega
      have hnum := hT.obj.num
      obtain ⟨hr1, hr2⟩ := rest_all (n := now + 100) (A := A) (fun q hq => by have := hnum.2.2.2.2.2 q hq; omega)
      have HT := Lib.hid hT
      have HP := Lib.hid hP
      have Hr := Lib.hid (And.intro hr1 hr2)
      have hlen := hP.len
      have hsz := hP.sizes
      have hfew := hP.few
      have hris := hP.rises
      clear hT hP hnum hr1 hr2
      go_wp2_with fail
      refine (town_Due HT.out.obj (now + 100) (by omega) (by omega)).mono ?_
      rintro e w7 ⟨p7, c7, G7, rfl, hG, h7, hk7⟩
      rw [Hr.out.2] at hG ⊢
      rw [Hr.out.1] at h7
      have T7 := HT.out.call h7 hk7
      have hP7 := HP.out.due (now + 100)
      rw [Hr.out.1, Hr.out.2, hil2] at hP7
      have HK := Lib.hid (taken_walk hG hris (by omega) (by omega))
      have HT7 := Lib.hid T7
      have HP7 := Lib.hid hP7
      have hM1 : O.length + (startsA A).length ≤ 1000 := by omega
      clear hG h7 hk7 T7 hP7 hris hfew HT HP Hr
      go_wp2_with fail
      refine HK.out.mono ?_
      rintro e w8 ⟨q8, c8, rfl, hM, o8, hb8⟩
      have T8 := HT7.out.only o8
      obtain ⟨g9, cap9, w9, hap9, T9⟩ := T8.addOut hM hM1
      obtain ⟨i0, hi0, hz0, hz1, hz2⟩ := info_int
      obtain ⟨o, hmk, hrow⟩ := run_make_is (P := Try.prog) (w := w9) Try.underlying22 hi0 hz0 hz1 hz2 rfl len (by omega) (by omega)
      have T10 := T9.only ((Only.refl [] w9).alloc o)
      have hO10 : TObj w [w9.heap.size] (w9.alloc o) tp (1 + (m : Int)) (1 + (v : Int)) 1 (now + 100) came (fun _ => none) [] :=
        T9.obj.swap ((Only.refl [] w9).alloc o) (by simp) (by simp) (fun x hx => by rw [List.mem_singleton] at hx; exact .inr (by omega)) (fun x hx => by rw [List.mem_singleton] at hx; rw [hx]; simp)
      have hc1 : w9.heap.size ∉ blockOf (.slice ip I.length ic) := fun hm => by have := T9.isl.lt _ hm; omega
      have hc2 : w9.heap.size ∉ blockOf (.slice g9 (O.length + (startsA A).length) cap9) := fun hm => by have := T9.osl.lt _ hm; omega
      have hc3 : w.heap.size ≤ w9.heap.size := T9.obj.out.size
      obtain ⟨f1, f2, f3, f4⟩ := HP7.out.fin
      have hOl : (O ++ startsA A).length = O.length + (startsA A).length := List.length_append
      have hIl : I.length = O.length + (startsA A).length := by rw [f4, hOl]
      rw [hIl] at hc1
      have hil3 : (O.length + (startsA A).length : Nat) ≤ 80 := by omega
      have isl := T10.isl
      have osl := T10.osl
      rw [hIl] at isl
      have HI := Lib.hid isl
      have HO := Lib.hid osl
      have HB := Lib.hid hO10
      have HS : Hid (SeenZ (w9.alloc o) w9.heap.size len []) := Lib.hid (SeenZ.of hrow)
      have Hc := Lib.hid (And.intro hc1 (And.intro hc2 hc3))
      have HF := Lib.hid (And.intro f1 (And.intro f2 (And.intro f3 (And.intro hOl hIl))))
      have hws : w9.heap.size < (w9.alloc o).heap.size := by simp
      rw [hIl]
      clear hM o8 hb8 T8 T9 T10 HK HT7 hM1 hi0 hz0 hz1 hz2 hrow hO10 hc1 hc2 hc3 f1 f2 f3 f4 hOl isl osl HP7 hIl hlen hsz
      go_wp2_with fail
      generalize w9.alloc o = w10 at *
      generalize w9.heap.size = cb at *
      clear hap9 hmk
      obtain ⟨n, hn⟩ : ∃ n, O.length + (startsA A).length = n := ⟨_, rfl⟩
      obtain ⟨L, hL⟩ : ∃ L, O ++ startsA A = L := ⟨_, rfl⟩
      rw [hn] at HI HO Hc HF hil3 ⊢
      rw [hL] at HO HF
      clear hn hL
      go_loopw [20] (fun jv wr => ∃ j : Nat, jv = .int .i64 j ∧ j ≤ n ∧ TObj w [cb] wr tp (1 + (m : Int)) (1 + (v : Int)) 1 (now + 100) came (fun _ => none) [] ∧ SliceIs wr 3 1 (I.map encI) (.slice ip n ic) ∧ SliceIs wr 3 1 (L.map encI) (.slice g9 n cap9) ∧ SeenZ wr cb len (L.take j)) (fun jv _ => n - (intOf jv).toNat)
      case atStart => exact ⟨0, rfl, by omega, HB.out, HI.out, HO.out, by rw [List.take_zero]; exact HS.out⟩
      case round =>
        clear HB HI HO HS
        obtain ⟨j, rfl, hj, hB, hI, hO, hS⟩ := hrel
        have hn80 : (n : Int) ≤ 80 := by omega
        have hLn : L.length = n := HF.out.2.2.2.1
        have hIn : I.length = n := HF.out.2.2.2.2
        by_cases hjn : j < n
        · have g3 : decide (j < n) = true := decide_eq_true hjn
          obtain ⟨x, hx⟩ : ∃ x, L[j]? = some x := ⟨_, List.getElem?_eq_getElem (by omega)⟩
          obtain ⟨hx0, hx1⟩ := HF.out.2.1 x (List.mem_of_getElem? hx)
          obtain ⟨k, rfl⟩ : ∃ k : Nat, x = k := ⟨x.toNat, by omega⟩
          have hkl : k < len := by omega
          have g4 : decide ((k : Int) < 0) = false := decide_eq_false (by omega)
          have g5 : decide (len ≤ k) = false := decide_eq_false (by omega)
          have hO' := hO
          rw [← hLn] at hO'
          obtain ⟨gb, go, hg, hgl, hgc⟩ := row_int hO' hx
          subst hg
          have hsc := hS.cell k hkl
          rw [if_neg (not_ahead HF.out.1 hx)] at hsc
          have hfz := hS.fz
          have hcb : cb < wr.heap.size := lt_of_cell hsc
          have hne : gb ≠ cb := fun he => Hc.out.2.1 (by simp [blockOf, he])
          have hlen' : (len : Int) ≤ 80 := by omega
          have HB := Lib.hid hB
          have HI := Lib.hid hI
          have HO := Lib.hid hO
          have HS := Lib.hid hS
          have Hx := Lib.hid hx
          clear hB hI hO hO' hS hx hLn hIn hx1
          go_wp2_with fail
          have o1 := only_setTp wr cb k (.int .i64 1)
          have hfin : TObj w [cb] (wr.setCell ⟨cb, k, none⟩ (.int .i64 1)) tp (1 + (m : Int)) (1 + (v : Int)) 1 (now + 100) came (fun _ => none) [] ∧ SliceIs (wr.setCell ⟨cb, k, none⟩ (.int .i64 1)) 3 1 (I.map encI) (.slice ip n ic) ∧ SliceIs (wr.setCell ⟨cb, k, none⟩ (.int .i64 1)) 3 1 (L.map encI) (.slice (some ⟨gb, go, none⟩) n cap9) ∧ SeenZ (wr.setCell ⟨cb, k, none⟩ (.int .i64 1)) cb len (L.take (j + 1)) :=
            ⟨HB.out.only o1 (by simp) (by simpa using Hc.out.2.2), HI.out.only o1 (fun x hx hm => by rw [List.mem_singleton] at hm; exact Hc.out.1 (hm ▸ hx)), HO.out.only o1 (fun x hx hm => by rw [List.mem_singleton] at hm; exact Hc.out.2.1 (hm ▸ hx)), by rw [take_more Hx.out]; exact HS.out.put hkl⟩
          have Hfin := Lib.hid hfin
          clear hfin o1
          go_roundw
          case rel => exact ⟨j + 1, by go_num, by omega, Hfin.out.1, Hfin.out.2.1, Hfin.out.2.2.1, Hfin.out.2.2.2⟩
          case measure => simp [intOf]; omega
        · have g3 : decide (j < n) = false := decide_eq_false hjn
          have hj2 : j = n := by omega
          have hLt : L.take j = L := by rw [hj2, ← hLn, List.take_length]
          rw [hLt] at hS
          have HB := Lib.hid hB
          have HI := Lib.hid hI
          have HS := Lib.hid hS
          have HIn := Lib.hid hIn
          clear hB hI hO hS hLn hIn hLt hj2
          go_wp2_with fail
          go_loopw [21] (fun kv wq => ∃ j : Nat, kv = .int .i64 j ∧ j ≤ n ∧ wq = wr) (fun kv _ => n - (intOf kv).toNat)
          case atStart => exact ⟨0, rfl, by omega, rfl⟩
          case round =>
            obtain ⟨j, rfl, hj, rfl⟩ := hrel
            by_cases hjn : j < n
            · have g3 : decide (j < n) = true := decide_eq_true hjn
              have hIn := HIn.out
              obtain ⟨x, hx⟩ : ∃ x, I[j]? = some x := ⟨_, List.getElem?_eq_getElem (by omega)⟩
              obtain ⟨hxL, hx0, hx1⟩ := HF.out.2.2.1 x (List.mem_of_getElem? hx)
              obtain ⟨k, rfl⟩ : ∃ k : Nat, x = k := ⟨x.toNat, by omega⟩
              have hkl : k < len := by omega
              have hI' := HI.out
              rw [← hIn] at hI'
              obtain ⟨gb, go, hg, hgl, hgc⟩ := row_int hI' hx
              subst hg
              have hsc := HS.out.cell k hkl
              rw [if_pos hxL] at hsc
              have hcb := lt_of_cell hsc
              have hlen' : (len : Int) ≤ 80 := by omega
              clear hI' hx hIn hx1 hxL
              go_wp2_with fail
              go_roundw
              case rel => exact ⟨j + 1, by go_num, by omega, trivial⟩
              case measure => simp [intOf]; omega
            · have g3 : decide (j < n) = false := decide_eq_false hjn
              go_wp2_with fail
              refine (town_Len HB.out).mono ?_
              rintro e w11 ⟨rfl, rfl⟩
              rw [show spansA [] = 0 from rfl]
              go_wp2_with fail
              go_ret
              exact ⟨rfl, HB.out.out⟩

end Go.Proofs.Ytcppnmogdmpdbaa
