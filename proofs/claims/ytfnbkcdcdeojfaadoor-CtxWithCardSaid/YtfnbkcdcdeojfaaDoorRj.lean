/- The document's answer for layer 4, walked: With. -/
import Derived.Test.YtfnbkcdcdeojfaaDoorRi
set_option linter.unusedVariables false
set_option linter.unusedSimpArgs false
namespace Go.Proofs.YtfnbkcdcdeojfaaDoor
open Go.RowKit Go.Mk Go.Cx
attribute [-go_sem] Builtin.append_

theorem mkd (l : List UInt8) : (⟨l.toArray⟩ : ByteArray).data.toList = l := rfl

set_option maxRecDepth 100000 in
set_option maxHeartbeats 16000000 in
theorem rwith_walk (s : ByteArray) (mk : Mk) (w : World) (hs : s.size ≤ 80000) (ht : mk.t < big) (hrr : mk.r < big) :
    Calls Tryd.prog 30 #[.string s, .agg (mkArr mk)] w fun e w' => e = .returned (.tuple #[.string ⟨(withL s.data.toList mk).1.toArray⟩, .int .i64 ((withL s.data.toList mk).2 : Nat)]) ∧ Only [] w w' := by
  have oa := (Only.refl [] w).alloc (.cells (mkArr mk) 29)
  have HB := Lib.hid (heap_alloc_new w (.cells (mkArr mk) 29))
  have C := Lib.hid (rread_walk s (w.alloc (.cells (mkArr mk) 29)) hs)
  have Oa := Lib.hid oa
  obtain ⟨rd, hrd⟩ : ∃ rd, rd = readL s.data.toList := ⟨_, rfl⟩
  rw [← hrd] at C
  have Hrd := Lib.hid hrd
  have Ht := Lib.hid ht
  have Hrr := Lib.hid hrr
  clear oa hrd ht hrr
  obtain ⟨⟨aT, at', aR, ar⟩, en⟩ := rd
  obtain ⟨hT, t, hR, r⟩ := mk
  simp only [mkArr] at *
  go_enter Tryd.func30, Tryd.ntmps30
  go_wp2_with fail
  generalize w.alloc (.cells #[.bool hT, .int .u64 t, .bool hR, .int .u64 r] 29) = w1 at *
  obtain ⟨xb, hxb⟩ : ∃ xb, xb = w.heap.size := ⟨_, rfl⟩
  rw [← hxb] at HB ⊢
  clear hxb
  refine C.out.mono ?_
  rintro e w2 ⟨rfl, o2⟩
  simp only
  have O2 := Lib.hid (Oa.out.trans o2)
  have HB2 := Lib.hid (o2.blk HB.out (by simp))
  clear o2 C HB Oa
  have oa : Only [] w2 (w2.alloc (.cells #[.bool aT, .int .u64 at', .bool aR, .int .u64 ar] 29)) := (Only.refl _ _).alloc _
  by_cases hen : en = 0
  · subst hen
    have hread : (readL s.data.toList).2 = 0 := by rw [← Hrd.out]
    have HRD := Lib.hid hread
    have xl := lt_of_blk HB2.out
    have x0 : w2.cell? ⟨xb, 0, none⟩ = some (.bool hT) := by rw [cell_of_blk HB2.out]; rfl
    have x1 : w2.cell? ⟨xb, 1, none⟩ = some (.int .u64 t) := by rw [cell_of_blk HB2.out]; rfl
    have x2 : w2.cell? ⟨xb, 2, none⟩ = some (.bool hR) := by rw [cell_of_blk HB2.out]; rfl
    have x3 : w2.cell? ⟨xb, 3, none⟩ = some (.int .u64 r) := by rw [cell_of_blk HB2.out]; rfl
    clear hread
    by_cases hbad : marksBad ⟨hT, t, hR, r⟩ = true
    · have hbc := bad_cases hbad
      rcases hbc with h1 | ⟨h1, h2⟩ | ⟨h1, h2, rfl, h4⟩ | ⟨h1, h2, rfl, rfl, h5⟩ | ⟨h1, h2, rfl, rfl, rfl, h5⟩
      all_goals
        have Hw := Lib.hid (show withL s.data.toList ⟨_, _, _, _⟩ = ([], 1) by
          unfold withL
          rw [← Hrd.out, if_neg (by simp), if_pos hbad])
        clear hbad oa
      · have q1 : decide ((72057594037927936 : Int) ≤ t) = true := decide_eq_true (by omega)
        clear h1
        go_wp2_with fail
        go_ret2
        exact ⟨by rw [Hw.out]; rfl, O2.out.trans ((Only.refl _ _).alloc _)⟩
      · have q1 : decide ((72057594037927936 : Int) ≤ t) = false := decide_eq_false (by omega)
        have q2 : decide ((72057594037927936 : Int) ≤ r) = true := decide_eq_true (by omega)
        clear h1 h2
        go_wp2_with fail
        go_ret2
        exact ⟨by rw [Hw.out]; rfl, O2.out.trans ((Only.refl _ _).alloc _)⟩
      · have q1 : decide ((72057594037927936 : Int) ≤ t) = false := decide_eq_false (by omega)
        have q2 : decide ((72057594037927936 : Int) ≤ r) = false := decide_eq_false (by omega)
        have q3 : decide ((0 : Int) < t) = true := decide_eq_true (by omega)
        have q3' : decide (0 < t) = true := decide_eq_true (by omega)
        clear h1 h2 h4
        go_wp2_with fail
        go_ret2
        exact ⟨by rw [Hw.out]; rfl, O2.out.trans ((Only.refl _ _).alloc _)⟩
      · have q1 : decide ((72057594037927936 : Int) ≤ t) = false := decide_eq_false (by omega)
        have q2 : decide ((72057594037927936 : Int) ≤ r) = false := decide_eq_false (by omega)
        have q3 : decide ((0 : Int) < r) = true := decide_eq_true (by omega)
        have q3' : decide (0 < r) = true := decide_eq_true (by omega)
        clear h1 h2 h5
        go_wp2_with fail
        go_ret2
        exact ⟨by rw [Hw.out]; rfl, O2.out.trans ((Only.refl _ _).alloc _)⟩
      · have q2 : decide ((72057594037927936 : Int) ≤ r) = false := decide_eq_false (by omega)
        have q3 : decide ((0 : Int) < r) = true := decide_eq_true (by omega)
        have q3' : decide (0 < r) = true := decide_eq_true (by omega)
        clear h1 h2 h5
        go_wp2_with fail
        go_ret2
        exact ⟨by rw [Hw.out]; rfl, O2.out.trans ((Only.refl _ _).alloc _)⟩
    · have hgood : marksBad ⟨hT, t, hR, r⟩ = false := by simpa using hbad
      have Hgood := Lib.hid hgood
      obtain ⟨c1, c2, c34⟩ := good_cases hgood
      have hwith := fun (L : List (List UInt8)) (hl : laidL s.data.toList ⟨hT, t, hR, r⟩ = L) => (show withL s.data.toList ⟨hT, t, hR, r⟩ = if 512 < (Lib.join L [44]).length ∨ 32 < L.length then ([], 3) else (Lib.join L [44], 0) by
        unfold withL
        rw [← Hrd.out, if_neg (by simp), hgood, hl]
        rfl)
      have Hwith := Lib.hid hwith
      have hlst := fun i => @lst_small s.data.toList ⟨hT, t, hR, r⟩ i HRD.out
      have hall := fun i => @lst_all s.data.toList ⟨hT, t, hR, r⟩ i
      obtain ⟨V, hV⟩ : ∃ V : ByteArray, V.data.toList = writtenL ⟨hT, t, hR, r⟩ := ⟨⟨(writtenL ⟨hT, t, hR, r⟩).toArray⟩, mkd _⟩
      have sV : V.size ≤ 40 := by rw [← len_data, hV]; exact written_le _
      rw [← hV] at hlst hall
      have Hlst := Lib.hid hlst
      have Hall := Lib.hid hall
      have wc := written_cases t r
      have q1 : decide ((72057594037927936 : Int) ≤ t) = false := decide_eq_false (by omega)
      have q2 : decide ((72057594037927936 : Int) ≤ r) = false := decide_eq_false (by omega)
      obtain ⟨A, hAd, cA⟩ : ∃ A : ByteArray, A.data.toList = shortL t ∧ ∀ W, Calls Tryd.prog 45 #[.int .u64 t] W fun e w' => e = .returned (.string A) ∧ w' = W := ⟨⟨(shortL t).toArray⟩, mkd _, fun W => rshort_walk t W Ht.out⟩
      obtain ⟨B, hBd, cB⟩ : ∃ B : ByteArray, B.data.toList = hexedL r 14 ∧ ∀ W, Calls Tryd.prog 28 #[.int .u64 r, .int .i64 14] W fun e w' => e = .returned (.string B) ∧ w' = W := ⟨⟨(hexedL r 14).toArray⟩, mkd _, fun W => rdigits_walk r 14 W Hrr.out (by omega)⟩
      have CA := Lib.hid cA
      have CB := Lib.hid cB
      have sA : A.size ≤ 14 := by
        have := shortL_len t
        rw [← hAd, len_data] at this
        exact this
      have sB : B.size ≤ 14 := by
        have := hexedL_length r 14
        rw [← hBd, len_data] at this
        omega
      have CM : Hid (∀ W, Calls Tryd.prog 46 #[.string s] W (MembPost s.data.toList W)) := Lib.hid (fun W => rmembers_walk s W (by omega))
      clear hgood hbad hwith hlst hall cA cB
      rcases c34 with ⟨rfl, rfl⟩ | ⟨rfl, rfl, h0⟩ | ⟨rfl, h0, rfl⟩ | ⟨rfl, h0, rfl, h00⟩
      · have hVe : V = ⟨#[116, 104, 58]⟩ ++ A ++ ⟨#[59]⟩ ++ ⟨#[114, 118, 58]⟩ ++ B := data_inj (by rw [hV, wc.1]; simp only [cat_data, hAd, hBd]; simp)
        have hvn : V.data.toList ≠ [] := by rw [hV, wc.1]; simp
        have hie := ne_isEmpty hvn
        have hvn2 : ∀ U, V.data.toList = U → U ≠ [] := fun U h => h ▸ hvn
        have HVn2 := Lib.hid hvn2
        have HVe := Lib.hid hVe
        clear hVe wc hAd hBd hV c1 c2 oa hvn hvn2
        go_wp2_with fail
        refine (CA.out _).mono ?_
        rintro e w' ⟨rfl, rfl⟩
        go_wp2_with fail
        refine (CB.out _).mono ?_
        rintro e w' ⟨rfl, rfl⟩
        go_upto_region 15 with (fail)
        rw [← HVe.out]
        go_wp2_with fail
        refine (CM.out _).mono ?_
        rintro e w3 ⟨o3, (⟨hbad, rfl⟩ | ⟨hok, kv, vv, K, Vs, rfl, ⟨kp, kc, rfl, hk1, hk2⟩, ⟨vp, vc, rfl, hv1, hv2⟩, hK, hVs⟩)⟩
        · exact absurd hbad (by rw [(read_ok HRD.out).2.2]; simp)
        · obtain ⟨kvs, hkvs⟩ : ∃ kvs, (membs [] (partsC 44 s.data.toList)).1 = kvs := ⟨_, rfl⟩
          have hkvok : ∀ kv ∈ kvs, KVOk kv := by rw [← hkvs]; exact (@membs_nodup (partsC 44 s.data.toList) []).2.2
          have hsm := Hlst.out
          have hal := Hall.out
          rw [hkvs] at hK hVs
          simp only [hkvs] at hsm hal
          have hKl : K.length = kvs.length := by have := congrArg List.length hK; unfold dataL at this; rwa [List.length_map, List.length_map] at this
          have hVl : Vs.length = kvs.length := by have := congrArg List.length hVs; unfold dataL at this; rwa [List.length_map, List.length_map] at this
          have hkl : kvs.length ≤ 33 := by
            have h1 := @membs_len (partsC 44 s.data.toList) []
            have h2 := (read_ok HRD.out).2.1
            rw [hkvs] at h1
            omega
          have hKi : (K.length : Int) ≤ 33 := by omega
          have O3 := Lib.hid (O2.out.trans (((Only.refl _ _).alloc _).trans o3))
          have Hkvok := Lib.hid hkvok
          have HK := Lib.hid hK
          have HV := Lib.hid hVs
          have HKl := Lib.hid (And.intro hKl hVl)
          have HKs := Lib.hid hk1
          have HVs := Lib.hid hv1
          have Hsm := Lib.hid hsm
          have Hal := Lib.hid hal
          obtain ⟨U, hU⟩ : ∃ U, V.data.toList = U := ⟨_, rfl⟩
          rw [hU] at Hsm Hal
          have HU := Lib.hid hU
          have Hkl := Lib.hid hkl
          clear hkvok hK hVs hKl hVl hkl hk1 hk2 hv1 hv2 o3 hok hkvs CM hsm hal hU Hlst Hall
          go_wp2_with fail
          go_loopw [9, 10, 14] (fun ov mv iv wr => ∃ (i : Nat) (O : ByteArray), iv = .int .i64 i ∧ i ≤ K.length ∧ ov = .string O ∧ O.data.toList = Lib.join (lstL U kvs i) [44] ∧ mv = .int .i64 ((lstL U kvs i).length : Nat) ∧ Only [] w3 wr) (fun _ _ iv _ => K.length - (intOf iv).toNat)
          case atStart => exact ⟨0, _, rfl, by omega, rfl, by rw [lst_zero (HVn2.out _ HU.out), Lib.join_one, cat_data, HU.out]; rfl, by rw [lst_zero (HVn2.out _ HU.out)]; rfl, Only.refl _ _⟩
          case round =>
            obtain ⟨i, O, rfl, hi, rfl, hO, rfl, ho⟩ := hrel
            have hOs : O.size ≤ 10000 := by rw [← len_data, hO]; exact (Hsm.out i).2
            have hM33 : ((lstL U kvs i).length : Int) ≤ 33 := by have := (Hsm.out i).1; omega
            have HOd := Lib.hid hO
            obtain ⟨M, hM⟩ : ∃ M, (lstL U kvs i).length = M := ⟨_, rfl⟩
            rw [hM] at hM33 ⊢
            have HM := Lib.hid hM
            clear hO hM
            by_cases hlt : i < K.length
            · have g3 : decide (i < K.length) = true := decide_eq_true hlt
              obtain ⟨y, hy⟩ : ∃ y, K[i]? = some y := ⟨K[i], List.getElem?_eq_getElem hlt⟩
              obtain ⟨z, hz⟩ : ∃ z, Vs[i]? = some z := ⟨Vs[i]'(by have := HKl.out; omega), List.getElem?_eq_getElem _⟩
              obtain ⟨kv, hkv⟩ : ∃ kv, kvs[i]? = some kv := ⟨kvs[i]'(by have := HKl.out; omega), List.getElem?_eq_getElem _⟩
              have h1 : kv.1 = y.data.toList := by
                have := congrArg (·[i]?) HK.out
                simpa [dataL, hy, hkv] using this.symm
              have h2 : kv.2 = z.data.toList := by
                have := congrArg (·[i]?) HV.out
                simpa [dataL, hz, hkv] using this.symm
              have hval := (Hkvok.out kv (List.mem_of_getElem? hkv)).val
              have hkey := (Hkvok.out kv (List.mem_of_getElem? hkv)).key
              rw [h2] at hval
              rw [h1] at hkey
              unfold valOk at hval
              unfold keyOk at hkey
              simp only [Bool.and_eq_true, decide_eq_true_eq] at hval hkey
              obtain ⟨gk, okk, rfl, hgk, hck⟩ := str_cellP (HKs.out.only ho (by simp)) hy
              obtain ⟨gv, ov, rfl, hgv, hcv⟩ := str_cellP (HVs.out.only ho (by simp)) hz
              have hzs : z.size ≤ 200 := by rw [← len_data]; exact hval.2.2
              have hys : y.size ≤ 60 := by rw [← len_data]; exact hkey.2.2
              have hVi : (i : Int) < Vs.length := by have := HKl.out; omega
              have HKV := Lib.hid (And.intro hkv (And.intro h1 h2))
              have HO := Lib.hid ho
              clear hy hz hkv h1 h2 hval hkey ho
              by_cases hot : y.data.toList = ot
              · have e1 : (y.toList == [111, 116]) = true := by rw [Lib.toList_data, hot]; rfl
                have HL := Lib.hid (lst_ot (v := U) HKV.out.1 (by rw [HKV.out.2.1, hot]))
                clear hot
                go_wp2_with fail
                exact ⟨⟨i + 1, O, by go_num, by omega, rfl, by rw [HL.out]; exact HOd.out, by rw [HL.out, HM.out], HO.out⟩, by simp [intOf]; omega⟩
              · have e1 : (y.toList == [111, 116]) = false := by rw [Lib.toList_data]; simpa using (show y.data.toList ≠ [111, 116] from hot)
                have hne : kv.1 ≠ ot := by rw [HKV.out.2.1]; exact hot
                have HLen := Lib.hid (lst_len (v := U) HKV.out.1 hne)
                by_cases hl : lstL U kvs i = []
                · have hoe : O.data.toList = [] := by rw [HOd.out, hl]; rfl
                  have he := isEmpty_data hoe
                  have HL := Lib.hid (lst_next_nil HKV.out.1 hne hl)
                  have HOe := Lib.hid hoe
                  clear hot hne hl hoe
                  go_wp2_with fail
                  go_quiet (fail)
                  go_wp2_with fail
                  refine ⟨⟨i + 1, _, by go_num, by omega, rfl, ?_, by rw [HLen.out, HM.out]; go_num, HO.out.drewN _⟩, by simp [intOf]; omega⟩
                  rw [HL.out]
                  simp only [cat_data]
                  rw [HOe.out, ← HKV.out.2.1, ← HKV.out.2.2]
                  rfl
                · have hoe : O.data.toList ≠ [] := by rw [HOd.out]; exact fun e => hl ((join_nil_iff lst_ne).1 e)
                  have he := ne_isEmpty hoe
                  have HL := Lib.hid (lst_next HKV.out.1 hne hl)
                  clear hot hne hl hoe
                  go_wp2_with fail
                  go_quiet (fail)
                  go_wp2_with fail
                  refine ⟨⟨i + 1, _, by go_num, by omega, rfl, ?_, by rw [HLen.out, HM.out]; go_num, HO.out.drewN _⟩, by simp [intOf]; omega⟩
                  rw [HL.out]
                  simp only [cat_data]
                  rw [HOd.out, ← HKV.out.2.1, ← HKV.out.2.2]
                  simp [kvL]
            · have g3 : decide (i < K.length) = false := decide_eq_false hlt
              have hL := Hal.out i (by have := HKl.out; omega)
              have hw := Hwith.out _ hL.symm
              rw [← HOd.out, HM.out, len_data] at hw
              have HO := Lib.hid ho
              by_cases h512 : 512 < O.size
              · have d1 : decide ((512 : Int) < O.size) = true := decide_eq_true (by omega)
                rw [if_pos (.inl h512)] at hw
                have Hw := Lib.hid hw
                clear hw h512 hL hlt ho
                go_wp2_with fail
                go_ret2
                exact ⟨by rw [Hw.out]; rfl, O3.out.trans HO.out⟩
              · have d1 : decide ((512 : Int) < O.size) = false := decide_eq_false (by omega)
                by_cases h32 : 32 < M
                · have d2 : decide ((32 : Int) < M) = true := decide_eq_true (by omega)
                  rw [if_pos (.inr h32)] at hw
                  have Hw := Lib.hid hw
                  clear hw h512 h32 hL hlt ho
                  go_wp2_with fail
                  go_ret2
                  exact ⟨by rw [Hw.out]; rfl, O3.out.trans HO.out⟩
                · have d2 : decide ((32 : Int) < M) = false := decide_eq_false (by omega)
                  rw [if_neg (by omega)] at hw
                  have Hw := Lib.hid hw
                  clear hw h512 h32 hL hlt ho
                  go_wp2_with fail
                  go_ret2
                  exact ⟨by rw [Hw.out]; rfl, O3.out.trans HO.out⟩
      · have hVe : V = ⟨#[116, 104, 58]⟩ ++ A := data_inj (by rw [hV, wc.2.1]; simp only [cat_data, hAd, hBd]; try rfl)
        have hvn : V.data.toList ≠ [] := by rw [hV, wc.2.1]; simp
        have hie := ne_isEmpty hvn
        have hvn2 : ∀ U, V.data.toList = U → U ≠ [] := fun U h => h ▸ hvn
        have HVn2 := Lib.hid hvn2
        have HVe := Lib.hid hVe
        clear hVe wc hAd hBd hV c1 c2 oa hvn hvn2
        go_wp2_with fail
        refine (CA.out _).mono ?_
        rintro e w' ⟨rfl, rfl⟩
        go_upto_region 15 with (fail)
        rw [← HVe.out]
        go_wp2_with fail
        refine (CM.out _).mono ?_
        rintro e w3 ⟨o3, (⟨hbad, rfl⟩ | ⟨hok, kv, vv, K, Vs, rfl, ⟨kp, kc, rfl, hk1, hk2⟩, ⟨vp, vc, rfl, hv1, hv2⟩, hK, hVs⟩)⟩
        · exact absurd hbad (by rw [(read_ok HRD.out).2.2]; simp)
        · obtain ⟨kvs, hkvs⟩ : ∃ kvs, (membs [] (partsC 44 s.data.toList)).1 = kvs := ⟨_, rfl⟩
          have hkvok : ∀ kv ∈ kvs, KVOk kv := by rw [← hkvs]; exact (@membs_nodup (partsC 44 s.data.toList) []).2.2
          have hsm := Hlst.out
          have hal := Hall.out
          rw [hkvs] at hK hVs
          simp only [hkvs] at hsm hal
          have hKl : K.length = kvs.length := by have := congrArg List.length hK; unfold dataL at this; rwa [List.length_map, List.length_map] at this
          have hVl : Vs.length = kvs.length := by have := congrArg List.length hVs; unfold dataL at this; rwa [List.length_map, List.length_map] at this
          have hkl : kvs.length ≤ 33 := by
            have h1 := @membs_len (partsC 44 s.data.toList) []
            have h2 := (read_ok HRD.out).2.1
            rw [hkvs] at h1
            omega
          have hKi : (K.length : Int) ≤ 33 := by omega
          have O3 := Lib.hid (O2.out.trans (((Only.refl _ _).alloc _).trans o3))
          have Hkvok := Lib.hid hkvok
          have HK := Lib.hid hK
          have HV := Lib.hid hVs
          have HKl := Lib.hid (And.intro hKl hVl)
          have HKs := Lib.hid hk1
          have HVs := Lib.hid hv1
          have Hsm := Lib.hid hsm
          have Hal := Lib.hid hal
          obtain ⟨U, hU⟩ : ∃ U, V.data.toList = U := ⟨_, rfl⟩
          rw [hU] at Hsm Hal
          have HU := Lib.hid hU
          have Hkl := Lib.hid hkl
          clear hkvok hK hVs hKl hVl hkl hk1 hk2 hv1 hv2 o3 hok hkvs CM hsm hal hU Hlst Hall
          go_wp2_with fail
          go_loopw [9, 10, 14] (fun ov mv iv wr => ∃ (i : Nat) (O : ByteArray), iv = .int .i64 i ∧ i ≤ K.length ∧ ov = .string O ∧ O.data.toList = Lib.join (lstL U kvs i) [44] ∧ mv = .int .i64 ((lstL U kvs i).length : Nat) ∧ Only [] w3 wr) (fun _ _ iv _ => K.length - (intOf iv).toNat)
          case atStart => exact ⟨0, _, rfl, by omega, rfl, by rw [lst_zero (HVn2.out _ HU.out), Lib.join_one, cat_data, HU.out]; rfl, by rw [lst_zero (HVn2.out _ HU.out)]; rfl, Only.refl _ _⟩
          case round =>
            obtain ⟨i, O, rfl, hi, rfl, hO, rfl, ho⟩ := hrel
            have hOs : O.size ≤ 10000 := by rw [← len_data, hO]; exact (Hsm.out i).2
            have hM33 : ((lstL U kvs i).length : Int) ≤ 33 := by have := (Hsm.out i).1; omega
            have HOd := Lib.hid hO
            obtain ⟨M, hM⟩ : ∃ M, (lstL U kvs i).length = M := ⟨_, rfl⟩
            rw [hM] at hM33 ⊢
            have HM := Lib.hid hM
            clear hO hM
            by_cases hlt : i < K.length
            · have g3 : decide (i < K.length) = true := decide_eq_true hlt
              obtain ⟨y, hy⟩ : ∃ y, K[i]? = some y := ⟨K[i], List.getElem?_eq_getElem hlt⟩
              obtain ⟨z, hz⟩ : ∃ z, Vs[i]? = some z := ⟨Vs[i]'(by have := HKl.out; omega), List.getElem?_eq_getElem _⟩
              obtain ⟨kv, hkv⟩ : ∃ kv, kvs[i]? = some kv := ⟨kvs[i]'(by have := HKl.out; omega), List.getElem?_eq_getElem _⟩
              have h1 : kv.1 = y.data.toList := by
                have := congrArg (·[i]?) HK.out
                simpa [dataL, hy, hkv] using this.symm
              have h2 : kv.2 = z.data.toList := by
                have := congrArg (·[i]?) HV.out
                simpa [dataL, hz, hkv] using this.symm
              have hval := (Hkvok.out kv (List.mem_of_getElem? hkv)).val
              have hkey := (Hkvok.out kv (List.mem_of_getElem? hkv)).key
              rw [h2] at hval
              rw [h1] at hkey
              unfold valOk at hval
              unfold keyOk at hkey
              simp only [Bool.and_eq_true, decide_eq_true_eq] at hval hkey
              obtain ⟨gk, okk, rfl, hgk, hck⟩ := str_cellP (HKs.out.only ho (by simp)) hy
              obtain ⟨gv, ov, rfl, hgv, hcv⟩ := str_cellP (HVs.out.only ho (by simp)) hz
              have hzs : z.size ≤ 200 := by rw [← len_data]; exact hval.2.2
              have hys : y.size ≤ 60 := by rw [← len_data]; exact hkey.2.2
              have hVi : (i : Int) < Vs.length := by have := HKl.out; omega
              have HKV := Lib.hid (And.intro hkv (And.intro h1 h2))
              have HO := Lib.hid ho
              clear hy hz hkv h1 h2 hval hkey ho
              by_cases hot : y.data.toList = ot
              · have e1 : (y.toList == [111, 116]) = true := by rw [Lib.toList_data, hot]; rfl
                have HL := Lib.hid (lst_ot (v := U) HKV.out.1 (by rw [HKV.out.2.1, hot]))
                clear hot
                go_wp2_with fail
                exact ⟨⟨i + 1, O, by go_num, by omega, rfl, by rw [HL.out]; exact HOd.out, by rw [HL.out, HM.out], HO.out⟩, by simp [intOf]; omega⟩
              · have e1 : (y.toList == [111, 116]) = false := by rw [Lib.toList_data]; simpa using (show y.data.toList ≠ [111, 116] from hot)
                have hne : kv.1 ≠ ot := by rw [HKV.out.2.1]; exact hot
                have HLen := Lib.hid (lst_len (v := U) HKV.out.1 hne)
                by_cases hl : lstL U kvs i = []
                · have hoe : O.data.toList = [] := by rw [HOd.out, hl]; rfl
                  have he := isEmpty_data hoe
                  have HL := Lib.hid (lst_next_nil HKV.out.1 hne hl)
                  have HOe := Lib.hid hoe
                  clear hot hne hl hoe
                  go_wp2_with fail
                  go_quiet (fail)
                  go_wp2_with fail
                  refine ⟨⟨i + 1, _, by go_num, by omega, rfl, ?_, by rw [HLen.out, HM.out]; go_num, HO.out.drewN _⟩, by simp [intOf]; omega⟩
                  rw [HL.out]
                  simp only [cat_data]
                  rw [HOe.out, ← HKV.out.2.1, ← HKV.out.2.2]
                  rfl
                · have hoe : O.data.toList ≠ [] := by rw [HOd.out]; exact fun e => hl ((join_nil_iff lst_ne).1 e)
                  have he := ne_isEmpty hoe
                  have HL := Lib.hid (lst_next HKV.out.1 hne hl)
                  clear hot hne hl hoe
                  go_wp2_with fail
                  go_quiet (fail)
                  go_wp2_with fail
                  refine ⟨⟨i + 1, _, by go_num, by omega, rfl, ?_, by rw [HLen.out, HM.out]; go_num, HO.out.drewN _⟩, by simp [intOf]; omega⟩
                  rw [HL.out]
                  simp only [cat_data]
                  rw [HOd.out, ← HKV.out.2.1, ← HKV.out.2.2]
                  simp [kvL]
            · have g3 : decide (i < K.length) = false := decide_eq_false hlt
              have hL := Hal.out i (by have := HKl.out; omega)
              have hw := Hwith.out _ hL.symm
              rw [← HOd.out, HM.out, len_data] at hw
              have HO := Lib.hid ho
              by_cases h512 : 512 < O.size
              · have d1 : decide ((512 : Int) < O.size) = true := decide_eq_true (by omega)
                rw [if_pos (.inl h512)] at hw
                have Hw := Lib.hid hw
                clear hw h512 hL hlt ho
                go_wp2_with fail
                go_ret2
                exact ⟨by rw [Hw.out]; rfl, O3.out.trans HO.out⟩
              · have d1 : decide ((512 : Int) < O.size) = false := decide_eq_false (by omega)
                by_cases h32 : 32 < M
                · have d2 : decide ((32 : Int) < M) = true := decide_eq_true (by omega)
                  rw [if_pos (.inr h32)] at hw
                  have Hw := Lib.hid hw
                  clear hw h512 h32 hL hlt ho
                  go_wp2_with fail
                  go_ret2
                  exact ⟨by rw [Hw.out]; rfl, O3.out.trans HO.out⟩
                · have d2 : decide ((32 : Int) < M) = false := decide_eq_false (by omega)
                  rw [if_neg (by omega)] at hw
                  have Hw := Lib.hid hw
                  clear hw h512 h32 hL hlt ho
                  go_wp2_with fail
                  go_ret2
                  exact ⟨by rw [Hw.out]; rfl, O3.out.trans HO.out⟩
      · have hVe : V = ⟨#[]⟩ ++ ⟨#[114, 118, 58]⟩ ++ B := data_inj (by rw [hV, wc.2.2.1]; simp only [cat_data, hAd, hBd]; simp)
        have hvn : V.data.toList ≠ [] := by rw [hV, wc.2.2.1]; simp
        have hie := ne_isEmpty hvn
        have hvn2 : ∀ U, V.data.toList = U → U ≠ [] := fun U h => h ▸ hvn
        have HVn2 := Lib.hid hvn2
        have HVe := Lib.hid hVe
        clear hVe wc hAd hBd hV c1 c2 oa hvn hvn2
        go_wp2_with fail
        refine (CB.out _).mono ?_
        rintro e w' ⟨rfl, rfl⟩
        go_upto_region 15 with (fail)
        rw [← HVe.out]
        go_wp2_with fail
        refine (CM.out _).mono ?_
        rintro e w3 ⟨o3, (⟨hbad, rfl⟩ | ⟨hok, kv, vv, K, Vs, rfl, ⟨kp, kc, rfl, hk1, hk2⟩, ⟨vp, vc, rfl, hv1, hv2⟩, hK, hVs⟩)⟩
        · exact absurd hbad (by rw [(read_ok HRD.out).2.2]; simp)
        · obtain ⟨kvs, hkvs⟩ : ∃ kvs, (membs [] (partsC 44 s.data.toList)).1 = kvs := ⟨_, rfl⟩
          have hkvok : ∀ kv ∈ kvs, KVOk kv := by rw [← hkvs]; exact (@membs_nodup (partsC 44 s.data.toList) []).2.2
          have hsm := Hlst.out
          have hal := Hall.out
          rw [hkvs] at hK hVs
          simp only [hkvs] at hsm hal
          have hKl : K.length = kvs.length := by have := congrArg List.length hK; unfold dataL at this; rwa [List.length_map, List.length_map] at this
          have hVl : Vs.length = kvs.length := by have := congrArg List.length hVs; unfold dataL at this; rwa [List.length_map, List.length_map] at this
          have hkl : kvs.length ≤ 33 := by
            have h1 := @membs_len (partsC 44 s.data.toList) []
            have h2 := (read_ok HRD.out).2.1
            rw [hkvs] at h1
            omega
          have hKi : (K.length : Int) ≤ 33 := by omega
          have O3 := Lib.hid (O2.out.trans (((Only.refl _ _).alloc _).trans o3))
          have Hkvok := Lib.hid hkvok
          have HK := Lib.hid hK
          have HV := Lib.hid hVs
          have HKl := Lib.hid (And.intro hKl hVl)
          have HKs := Lib.hid hk1
          have HVs := Lib.hid hv1
          have Hsm := Lib.hid hsm
          have Hal := Lib.hid hal
          obtain ⟨U, hU⟩ : ∃ U, V.data.toList = U := ⟨_, rfl⟩
          rw [hU] at Hsm Hal
          have HU := Lib.hid hU
          have Hkl := Lib.hid hkl
          clear hkvok hK hVs hKl hVl hkl hk1 hk2 hv1 hv2 o3 hok hkvs CM hsm hal hU Hlst Hall
          go_wp2_with fail
          go_loopw [9, 10, 14] (fun ov mv iv wr => ∃ (i : Nat) (O : ByteArray), iv = .int .i64 i ∧ i ≤ K.length ∧ ov = .string O ∧ O.data.toList = Lib.join (lstL U kvs i) [44] ∧ mv = .int .i64 ((lstL U kvs i).length : Nat) ∧ Only [] w3 wr) (fun _ _ iv _ => K.length - (intOf iv).toNat)
          case atStart => exact ⟨0, _, rfl, by omega, rfl, by rw [lst_zero (HVn2.out _ HU.out), Lib.join_one, cat_data, HU.out]; rfl, by rw [lst_zero (HVn2.out _ HU.out)]; rfl, Only.refl _ _⟩
          case round =>
            obtain ⟨i, O, rfl, hi, rfl, hO, rfl, ho⟩ := hrel
            have hOs : O.size ≤ 10000 := by rw [← len_data, hO]; exact (Hsm.out i).2
            have hM33 : ((lstL U kvs i).length : Int) ≤ 33 := by have := (Hsm.out i).1; omega
            have HOd := Lib.hid hO
            obtain ⟨M, hM⟩ : ∃ M, (lstL U kvs i).length = M := ⟨_, rfl⟩
            rw [hM] at hM33 ⊢
            have HM := Lib.hid hM
            clear hO hM
            by_cases hlt : i < K.length
            · have g3 : decide (i < K.length) = true := decide_eq_true hlt
              obtain ⟨y, hy⟩ : ∃ y, K[i]? = some y := ⟨K[i], List.getElem?_eq_getElem hlt⟩
              obtain ⟨z, hz⟩ : ∃ z, Vs[i]? = some z := ⟨Vs[i]'(by have := HKl.out; omega), List.getElem?_eq_getElem _⟩
              obtain ⟨kv, hkv⟩ : ∃ kv, kvs[i]? = some kv := ⟨kvs[i]'(by have := HKl.out; omega), List.getElem?_eq_getElem _⟩
              have h1 : kv.1 = y.data.toList := by
                have := congrArg (·[i]?) HK.out
                simpa [dataL, hy, hkv] using this.symm
              have h2 : kv.2 = z.data.toList := by
                have := congrArg (·[i]?) HV.out
                simpa [dataL, hz, hkv] using this.symm
              have hval := (Hkvok.out kv (List.mem_of_getElem? hkv)).val
              have hkey := (Hkvok.out kv (List.mem_of_getElem? hkv)).key
              rw [h2] at hval
              rw [h1] at hkey
              unfold valOk at hval
              unfold keyOk at hkey
              simp only [Bool.and_eq_true, decide_eq_true_eq] at hval hkey
              obtain ⟨gk, okk, rfl, hgk, hck⟩ := str_cellP (HKs.out.only ho (by simp)) hy
              obtain ⟨gv, ov, rfl, hgv, hcv⟩ := str_cellP (HVs.out.only ho (by simp)) hz
              have hzs : z.size ≤ 200 := by rw [← len_data]; exact hval.2.2
              have hys : y.size ≤ 60 := by rw [← len_data]; exact hkey.2.2
              have hVi : (i : Int) < Vs.length := by have := HKl.out; omega
              have HKV := Lib.hid (And.intro hkv (And.intro h1 h2))
              have HO := Lib.hid ho
              clear hy hz hkv h1 h2 hval hkey ho
              by_cases hot : y.data.toList = ot
              · have e1 : (y.toList == [111, 116]) = true := by rw [Lib.toList_data, hot]; rfl
                have HL := Lib.hid (lst_ot (v := U) HKV.out.1 (by rw [HKV.out.2.1, hot]))
                clear hot
                go_wp2_with fail
                exact ⟨⟨i + 1, O, by go_num, by omega, rfl, by rw [HL.out]; exact HOd.out, by rw [HL.out, HM.out], HO.out⟩, by simp [intOf]; omega⟩
              · have e1 : (y.toList == [111, 116]) = false := by rw [Lib.toList_data]; simpa using (show y.data.toList ≠ [111, 116] from hot)
                have hne : kv.1 ≠ ot := by rw [HKV.out.2.1]; exact hot
                have HLen := Lib.hid (lst_len (v := U) HKV.out.1 hne)
                by_cases hl : lstL U kvs i = []
                · have hoe : O.data.toList = [] := by rw [HOd.out, hl]; rfl
                  have he := isEmpty_data hoe
                  have HL := Lib.hid (lst_next_nil HKV.out.1 hne hl)
                  have HOe := Lib.hid hoe
                  clear hot hne hl hoe
                  go_wp2_with fail
                  go_quiet (fail)
                  go_wp2_with fail
                  refine ⟨⟨i + 1, _, by go_num, by omega, rfl, ?_, by rw [HLen.out, HM.out]; go_num, HO.out.drewN _⟩, by simp [intOf]; omega⟩
                  rw [HL.out]
                  simp only [cat_data]
                  rw [HOe.out, ← HKV.out.2.1, ← HKV.out.2.2]
                  rfl
                · have hoe : O.data.toList ≠ [] := by rw [HOd.out]; exact fun e => hl ((join_nil_iff lst_ne).1 e)
                  have he := ne_isEmpty hoe
                  have HL := Lib.hid (lst_next HKV.out.1 hne hl)
                  clear hot hne hl hoe
                  go_wp2_with fail
                  go_quiet (fail)
                  go_wp2_with fail
                  refine ⟨⟨i + 1, _, by go_num, by omega, rfl, ?_, by rw [HLen.out, HM.out]; go_num, HO.out.drewN _⟩, by simp [intOf]; omega⟩
                  rw [HL.out]
                  simp only [cat_data]
                  rw [HOd.out, ← HKV.out.2.1, ← HKV.out.2.2]
                  simp [kvL]
            · have g3 : decide (i < K.length) = false := decide_eq_false hlt
              have hL := Hal.out i (by have := HKl.out; omega)
              have hw := Hwith.out _ hL.symm
              rw [← HOd.out, HM.out, len_data] at hw
              have HO := Lib.hid ho
              by_cases h512 : 512 < O.size
              · have d1 : decide ((512 : Int) < O.size) = true := decide_eq_true (by omega)
                rw [if_pos (.inl h512)] at hw
                have Hw := Lib.hid hw
                clear hw h512 hL hlt ho
                go_wp2_with fail
                go_ret2
                exact ⟨by rw [Hw.out]; rfl, O3.out.trans HO.out⟩
              · have d1 : decide ((512 : Int) < O.size) = false := decide_eq_false (by omega)
                by_cases h32 : 32 < M
                · have d2 : decide ((32 : Int) < M) = true := decide_eq_true (by omega)
                  rw [if_pos (.inr h32)] at hw
                  have Hw := Lib.hid hw
                  clear hw h512 h32 hL hlt ho
                  go_wp2_with fail
                  go_ret2
                  exact ⟨by rw [Hw.out]; rfl, O3.out.trans HO.out⟩
                · have d2 : decide ((32 : Int) < M) = false := decide_eq_false (by omega)
                  rw [if_neg (by omega)] at hw
                  have Hw := Lib.hid hw
                  clear hw h512 h32 hL hlt ho
                  go_wp2_with fail
                  go_ret2
                  exact ⟨by rw [Hw.out]; rfl, O3.out.trans HO.out⟩
      · have hVn : V.data.toList = [] := by rw [hV]; exact wc.2.2.2
        have hie := isEmpty_data hVn
        have hVn2 : ∀ U, V.data.toList = U → U = [] := fun U h => h ▸ hVn
        have HVn2 := Lib.hid hVn2
        clear wc hAd hBd hV c1 c2 oa hVn hVn2
        go_upto_region 15 with (fail)
        go_wp2_with fail
        refine (CM.out _).mono ?_
        rintro e w3 ⟨o3, (⟨hbad, rfl⟩ | ⟨hok, kv, vv, K, Vs, rfl, ⟨kp, kc, rfl, hk1, hk2⟩, ⟨vp, vc, rfl, hv1, hv2⟩, hK, hVs⟩)⟩
        · exact absurd hbad (by rw [(read_ok HRD.out).2.2]; simp)
        · obtain ⟨kvs, hkvs⟩ : ∃ kvs, (membs [] (partsC 44 s.data.toList)).1 = kvs := ⟨_, rfl⟩
          have hkvok : ∀ kv ∈ kvs, KVOk kv := by rw [← hkvs]; exact (@membs_nodup (partsC 44 s.data.toList) []).2.2
          have hsm := Hlst.out
          have hal := Hall.out
          rw [hkvs] at hK hVs
          simp only [hkvs] at hsm hal
          have hKl : K.length = kvs.length := by have := congrArg List.length hK; unfold dataL at this; rwa [List.length_map, List.length_map] at this
          have hVl : Vs.length = kvs.length := by have := congrArg List.length hVs; unfold dataL at this; rwa [List.length_map, List.length_map] at this
          have hkl : kvs.length ≤ 33 := by
            have h1 := @membs_len (partsC 44 s.data.toList) []
            have h2 := (read_ok HRD.out).2.1
            rw [hkvs] at h1
            omega
          have hKi : (K.length : Int) ≤ 33 := by omega
          have O3 := Lib.hid (O2.out.trans (((Only.refl _ _).alloc _).trans o3))
          have Hkvok := Lib.hid hkvok
          have HK := Lib.hid hK
          have HV := Lib.hid hVs
          have HKl := Lib.hid (And.intro hKl hVl)
          have HKs := Lib.hid hk1
          have HVs := Lib.hid hv1
          have Hsm := Lib.hid hsm
          have Hal := Lib.hid hal
          obtain ⟨U, hU⟩ : ∃ U, V.data.toList = U := ⟨_, rfl⟩
          rw [hU] at Hsm Hal
          have HU := Lib.hid hU
          have Hkl := Lib.hid hkl
          clear hkvok hK hVs hKl hVl hkl hk1 hk2 hv1 hv2 o3 hok hkvs CM hsm hal hU Hlst Hall
          go_wp2_with fail
          go_loopw [9, 10, 14] (fun ov mv iv wr => ∃ (i : Nat) (O : ByteArray), iv = .int .i64 i ∧ i ≤ K.length ∧ ov = .string O ∧ O.data.toList = Lib.join (lstL U kvs i) [44] ∧ mv = .int .i64 ((lstL U kvs i).length : Nat) ∧ Only [] w3 wr) (fun _ _ iv _ => K.length - (intOf iv).toNat)
          case atStart => exact ⟨0, _, rfl, by omega, rfl, by rw [lst_zero_nil (HVn2.out _ HU.out)]; rfl, by rw [lst_zero_nil (HVn2.out _ HU.out)]; rfl, Only.refl _ _⟩
          case round =>
            obtain ⟨i, O, rfl, hi, rfl, hO, rfl, ho⟩ := hrel
            have hOs : O.size ≤ 10000 := by rw [← len_data, hO]; exact (Hsm.out i).2
            have hM33 : ((lstL U kvs i).length : Int) ≤ 33 := by have := (Hsm.out i).1; omega
            have HOd := Lib.hid hO
            obtain ⟨M, hM⟩ : ∃ M, (lstL U kvs i).length = M := ⟨_, rfl⟩
            rw [hM] at hM33 ⊢
            have HM := Lib.hid hM
            clear hO hM
            by_cases hlt : i < K.length
            · have g3 : decide (i < K.length) = true := decide_eq_true hlt
              obtain ⟨y, hy⟩ : ∃ y, K[i]? = some y := ⟨K[i], List.getElem?_eq_getElem hlt⟩
              obtain ⟨z, hz⟩ : ∃ z, Vs[i]? = some z := ⟨Vs[i]'(by have := HKl.out; omega), List.getElem?_eq_getElem _⟩
              obtain ⟨kv, hkv⟩ : ∃ kv, kvs[i]? = some kv := ⟨kvs[i]'(by have := HKl.out; omega), List.getElem?_eq_getElem _⟩
              have h1 : kv.1 = y.data.toList := by
                have := congrArg (·[i]?) HK.out
                simpa [dataL, hy, hkv] using this.symm
              have h2 : kv.2 = z.data.toList := by
                have := congrArg (·[i]?) HV.out
                simpa [dataL, hz, hkv] using this.symm
              have hval := (Hkvok.out kv (List.mem_of_getElem? hkv)).val
              have hkey := (Hkvok.out kv (List.mem_of_getElem? hkv)).key
              rw [h2] at hval
              rw [h1] at hkey
              unfold valOk at hval
              unfold keyOk at hkey
              simp only [Bool.and_eq_true, decide_eq_true_eq] at hval hkey
              obtain ⟨gk, okk, rfl, hgk, hck⟩ := str_cellP (HKs.out.only ho (by simp)) hy
              obtain ⟨gv, ov, rfl, hgv, hcv⟩ := str_cellP (HVs.out.only ho (by simp)) hz
              have hzs : z.size ≤ 200 := by rw [← len_data]; exact hval.2.2
              have hys : y.size ≤ 60 := by rw [← len_data]; exact hkey.2.2
              have hVi : (i : Int) < Vs.length := by have := HKl.out; omega
              have HKV := Lib.hid (And.intro hkv (And.intro h1 h2))
              have HO := Lib.hid ho
              clear hy hz hkv h1 h2 hval hkey ho
              by_cases hot : y.data.toList = ot
              · have e1 : (y.toList == [111, 116]) = true := by rw [Lib.toList_data, hot]; rfl
                have HL := Lib.hid (lst_ot (v := U) HKV.out.1 (by rw [HKV.out.2.1, hot]))
                clear hot
                go_wp2_with fail
                exact ⟨⟨i + 1, O, by go_num, by omega, rfl, by rw [HL.out]; exact HOd.out, by rw [HL.out, HM.out], HO.out⟩, by simp [intOf]; omega⟩
              · have e1 : (y.toList == [111, 116]) = false := by rw [Lib.toList_data]; simpa using (show y.data.toList ≠ [111, 116] from hot)
                have hne : kv.1 ≠ ot := by rw [HKV.out.2.1]; exact hot
                have HLen := Lib.hid (lst_len (v := U) HKV.out.1 hne)
                by_cases hl : lstL U kvs i = []
                · have hoe : O.data.toList = [] := by rw [HOd.out, hl]; rfl
                  have he := isEmpty_data hoe
                  have HL := Lib.hid (lst_next_nil HKV.out.1 hne hl)
                  have HOe := Lib.hid hoe
                  clear hot hne hl hoe
                  go_wp2_with fail
                  go_quiet (fail)
                  go_wp2_with fail
                  refine ⟨⟨i + 1, _, by go_num, by omega, rfl, ?_, by rw [HLen.out, HM.out]; go_num, HO.out.drewN _⟩, by simp [intOf]; omega⟩
                  rw [HL.out]
                  simp only [cat_data]
                  rw [HOe.out, ← HKV.out.2.1, ← HKV.out.2.2]
                  rfl
                · have hoe : O.data.toList ≠ [] := by rw [HOd.out]; exact fun e => hl ((join_nil_iff lst_ne).1 e)
                  have he := ne_isEmpty hoe
                  have HL := Lib.hid (lst_next HKV.out.1 hne hl)
                  clear hot hne hl hoe
                  go_wp2_with fail
                  go_quiet (fail)
                  go_wp2_with fail
                  refine ⟨⟨i + 1, _, by go_num, by omega, rfl, ?_, by rw [HLen.out, HM.out]; go_num, HO.out.drewN _⟩, by simp [intOf]; omega⟩
                  rw [HL.out]
                  simp only [cat_data]
                  rw [HOd.out, ← HKV.out.2.1, ← HKV.out.2.2]
                  simp [kvL]
            · have g3 : decide (i < K.length) = false := decide_eq_false hlt
              have hL := Hal.out i (by have := HKl.out; omega)
              have hw := Hwith.out _ hL.symm
              rw [← HOd.out, HM.out, len_data] at hw
              have HO := Lib.hid ho
              by_cases h512 : 512 < O.size
              · have d1 : decide ((512 : Int) < O.size) = true := decide_eq_true (by omega)
                rw [if_pos (.inl h512)] at hw
                have Hw := Lib.hid hw
                clear hw h512 hL hlt ho
                go_wp2_with fail
                go_ret2
                exact ⟨by rw [Hw.out]; rfl, O3.out.trans HO.out⟩
              · have d1 : decide ((512 : Int) < O.size) = false := decide_eq_false (by omega)
                by_cases h32 : 32 < M
                · have d2 : decide ((32 : Int) < M) = true := decide_eq_true (by omega)
                  rw [if_pos (.inr h32)] at hw
                  have Hw := Lib.hid hw
                  clear hw h512 h32 hL hlt ho
                  go_wp2_with fail
                  go_ret2
                  exact ⟨by rw [Hw.out]; rfl, O3.out.trans HO.out⟩
                · have d2 : decide ((32 : Int) < M) = false := decide_eq_false (by omega)
                  rw [if_neg (by omega)] at hw
                  have Hw := Lib.hid hw
                  clear hw h512 h32 hL hlt ho
                  go_wp2_with fail
                  go_ret2
                  exact ⟨by rw [Hw.out]; rfl, O3.out.trans HO.out⟩
  · have hw : withL s.data.toList ⟨hT, t, hR, r⟩ = ([], en) := by
      unfold withL
      rw [← Hrd.out, if_pos hen]
    have Hw := Lib.hid hw
    have he2 : ((en : Int) == 0) = false := by rw [beq_eq_false_iff_ne]; omega
    have he3 : ((en : Int) != 0) = true := by rw [bne_iff_ne]; omega
    have O3 := Lib.hid (O2.out.trans oa)
    clear hw oa
    go_wp2_with fail
    go_ret2
    exact ⟨by rw [Hw.out]; rfl, O3.out⟩

end Go.Proofs.YtfnbkcdcdeojfaaDoor
