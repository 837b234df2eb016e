/- The document's answer for layer 4, walked: Read and short. -/
import Derived.Test.YtfnbkcdcdeojfaaDoorRf
set_option linter.unusedVariables false
set_option linter.unusedSimpArgs false
namespace Go.Proofs.YtfnbkcdcdeojfaaDoor
open Go.RowKit Go.Mk Go.Cx
attribute [-go_sem] Builtin.append_

theorem find_at : ∀ {kvs : List KV} {i : Nat} {kv : KV}, kvs[i]? = some kv → kv.1 = ot → (∀ j : Nat, j < i → ∀ x, kvs[j]? = some x → x.1 ≠ ot) → kvs.find? (fun kv => decide (kv.1 = ot)) = some kv
  | [], i, kv, h, _, _ => by simp at h
  | a :: r, 0, kv, h, ho, _ => by
    obtain rfl : a = kv := by simpa using h
    rw [List.find?_cons_of_pos (by simpa using ho)]
  | a :: r, i + 1, kv, h, ho, hn => by
    rw [List.find?_cons_of_neg (by simpa using hn 0 (by omega) a rfl)]
    exact find_at (i := i) (by simpa using h) ho (fun j hj x hx => hn (j + 1) (by omega) x (by simpa using hx))
theorem find_no {kvs : List KV} (h : ∀ j : Nat, ∀ x, kvs[j]? = some x → x.1 ≠ ot) : kvs.find? (fun kv => decide (kv.1 = ot)) = none := by
  rw [List.find?_eq_none]
  intro x hx
  obtain ⟨j, hj, he⟩ := List.mem_iff_getElem.1 hx
  simpa using h j x (by rw [List.getElem?_eq_getElem hj, he])

set_option maxRecDepth 100000 in
set_option maxHeartbeats 8000000 in
theorem rread_walk (s : ByteArray) (w : World) (hs : s.size ≤ 80000) :
    Calls Tryd.prog 44 #[.string s] w fun e w' => e = .returned (.tuple #[.agg (mkArr (readL s.data.toList).1), .int .i64 ((readL s.data.toList).2 : Nat)]) ∧ Only [] w w' := by
  have o1 : Only [] w (w.alloc (.cells #[.bool false, .int .u64 0, .bool false, .int .u64 0] 29)) := (Only.refl _ _).alloc _
  have hb1 := heap_alloc_new w (.cells #[.bool false, .int .u64 0, .bool false, .int .u64 0] 29)
  by_cases h512 : 512 < s.size
  · have g1 : decide ((512 : Int) < s.size) = true := decide_eq_true (by omega)
    have E := Lib.hid (show readL s.data.toList = (Mk.none, 3) by unfold readL; rw [if_pos (.inl (by rw [len_data]; exact h512))])
    have O1 := Lib.hid o1
    clear h512 o1 hb1
    go_enter Tryd.func44, Tryd.ntmps44
    go_wp2_with fail
    exact bodyPost_ret (v := .tuple #[.agg #[.bool false, .int .u64 0, .bool false, .int .u64 0], .int .i64 3]) (by simp [results, Tryd.results44, go_sem]) rfl ⟨by rw [E.out]; rfl, O1.out⟩
  · have g1 : decide ((512 : Int) < s.size) = false := decide_eq_false (by omega)
    have C := Lib.hid (rsplit_walk s 44 (w.alloc (.cells #[.bool false, .int .u64 0, .bool false, .int .u64 0] 29)) (by omega))
    have O1 := Lib.hid o1
    have HB1 := Lib.hid hb1
    have H512 := Lib.hid h512
    clear h512 o1 hb1
    go_enter Tryd.func44, Tryd.ntmps44
    go_wp2_with fail
    generalize w.alloc (.cells #[.bool false, .int .u64 0, .bool false, .int .u64 0] 29) = w1 at *
    generalize hrb : w.heap.size = rb at *
    have HRB := Lib.hid hrb
    clear hrb
    refine C.out.mono ?_
    rintro e w2 ⟨v, L, rfl, hT, hL, o2⟩
    obtain ⟨lp, lc, rfl, hsl, hlb⟩ := hT
    have hps : (partsC 44 s.data.toList).length = L.length := by rw [← hL]; unfold dataL; rw [List.length_map]
    have O2 := Lib.hid (O1.out.trans o2)
    have hb2 := o2.blk HB1.out (by simp)
    have HB2 := Lib.hid hb2
    have HPs := Lib.hid hps
    clear hsl hlb hL o2 C HB1 O1 hps
    by_cases h32 : 32 < L.length
    · have g2 : decide ((32 : Int) < L.length) = true := decide_eq_true (by omega)
      have E := Lib.hid (show readL s.data.toList = (Mk.none, 3) by unfold readL; rw [if_pos (.inr (by rw [HPs.out]; exact h32))])
      have r0 : w2.cell? ⟨rb, 0, none⟩ = some (.bool false) := by rw [cell_of_blk hb2]; rfl
      have r1 : w2.cell? ⟨rb, 1, none⟩ = some (.int .u64 0) := by rw [cell_of_blk hb2]; rfl
      have r2 : w2.cell? ⟨rb, 2, none⟩ = some (.bool false) := by rw [cell_of_blk hb2]; rfl
      have r3 : w2.cell? ⟨rb, 3, none⟩ = some (.int .u64 0) := by rw [cell_of_blk hb2]; rfl
      have fr : ∀ j, w2.frozen? ⟨rb, j, none⟩ = false := fun j => frozen_of_blk hb2
      have fr0 := fr 0
      have fr1 := fr 1
      have fr2 := fr 2
      have fr3 := fr 3
      have ltr := lt_of_blk hb2
      clear h32 fr hb2
      go_wp2_with fail
      have HF : Hid (∀ W, Only [rb] w2 W → Only [] w W) := Lib.hid (fun W h => O2.out.trans' h (fun x hx hlt => by
        have e1 := HRB.out
        simp only [List.mem_singleton] at hx
        omega))
      exact bodyPost_ret (v := .tuple #[.agg #[.bool false, .int .u64 0, .bool false, .int .u64 0], .int .i64 3]) (by simp [results, Tryd.results44, go_sem, *]) rfl ⟨by rw [E.out]; rfl, HF.out _ ((((((Only.refl [rb] w2).setCell (p := ⟨rb, 0, none⟩) (.inl (by simp)) _).setCell (p := ⟨rb, 1, none⟩) (.inl (by simp)) _).setCell (p := ⟨rb, 2, none⟩) (.inl (by simp)) _).setCell (p := ⟨rb, 3, none⟩) (.inl (by simp)) _))⟩
    · have g2 : decide ((32 : Int) < L.length) = false := decide_eq_false (by omega)
      have H32 := Lib.hid h32
      have CM := Lib.hid (rmembers_walk s w2 (by omega))
      clear h32 hb2
      go_wp2_with fail
      refine CM.out.mono ?_
      rintro e w3 ⟨o3, (⟨hbad, rfl⟩ | ⟨hok, kv, vv, K, V, rfl, ⟨kp, kc, rfl, hk1, hk2⟩, ⟨vp, vc, rfl, hv1, hv2⟩, hK, hV⟩)⟩
      · have hb3 := o3.blk HB2.out (by simp)
        have E := Lib.hid (show readL s.data.toList = (Mk.none, 31) by
          unfold readL
          rw [if_neg (by rw [HPs.out, len_data]; have := H512.out; have := H32.out; omega), hbad]
          rfl)
        have HF : Hid (∀ W, Only [rb] w3 W → Only [] w W) := Lib.hid (fun W h => (O2.out.trans o3).trans' h (fun x hx hlt => by
          have e1 := HRB.out
          simp only [List.mem_singleton] at hx
          omega))
        have r0 : w3.cell? ⟨rb, 0, none⟩ = some (.bool false) := by rw [cell_of_blk hb3]; rfl
        have r1 : w3.cell? ⟨rb, 1, none⟩ = some (.int .u64 0) := by rw [cell_of_blk hb3]; rfl
        have r2 : w3.cell? ⟨rb, 2, none⟩ = some (.bool false) := by rw [cell_of_blk hb3]; rfl
        have r3 : w3.cell? ⟨rb, 3, none⟩ = some (.int .u64 0) := by rw [cell_of_blk hb3]; rfl
        have fr : ∀ j, w3.frozen? ⟨rb, j, none⟩ = false := fun j => frozen_of_blk hb3
        have fr0 := fr 0
        have fr1 := fr 1
        have fr2 := fr 2
        have fr3 := fr 3
        have ltr := lt_of_blk hb3
        clear fr hb3 hbad o3
        go_wp2_with fail
        exact bodyPost_ret (v := .tuple #[.agg #[.bool false, .int .u64 0, .bool false, .int .u64 0], .int .i64 31]) (by simp [results, Tryd.results44, go_sem, *]) rfl ⟨by rw [E.out]; rfl, HF.out _ ((((((Only.refl [rb] w3).setCell (p := ⟨rb, 0, none⟩) (.inl (by simp)) _).setCell (p := ⟨rb, 1, none⟩) (.inl (by simp)) _).setCell (p := ⟨rb, 2, none⟩) (.inl (by simp)) _).setCell (p := ⟨rb, 3, none⟩) (.inl (by simp)) _))⟩
      · obtain ⟨kvs, hkvs⟩ : ∃ kvs, (membs [] (partsC 44 s.data.toList)).1 = kvs := ⟨_, rfl⟩
        have hkvok : ∀ kv ∈ kvs, KVOk kv := by rw [← hkvs]; exact (@membs_nodup (partsC 44 s.data.toList) []).2.2
        have hread : ∀ r, (match kvs.find? (fun kv => decide (kv.1 = ot)) with | Option.none => (Mk.none, 0) | some kv => match marksL kv.2 with | Option.none => (Mk.none, 31) | some m => (m, 0)) = r → readL s.data.toList = r := by
          intro r hr
          unfold readL
          rw [if_neg (by rw [HPs.out, len_data]; have := H512.out; have := H32.out; omega), hok, hkvs]
          exact hr
        rw [hkvs] at hK hV
        have hKl : K.length = kvs.length := by have := congrArg List.length hK; unfold dataL at this; rwa [List.length_map, List.length_map] at this
        have hVl : V.length = kvs.length := by have := congrArg List.length hV; unfold dataL at this; rwa [List.length_map, List.length_map] at this
        have hkl : kvs.length ≤ 33 := by
          have h1 := @membs_len (partsC 44 s.data.toList) []
          rw [hkvs, HPs.out] at h1
          have := H32.out
          omega
        have hKi : (K.length : Int) ≤ 33 := by omega
        have hb3 := o3.blk HB2.out (by simp)
        have O3 := Lib.hid (O2.out.trans o3)
        have HB3 := Lib.hid hb3
        have Hread := Lib.hid hread
        have Hkvok := Lib.hid hkvok
        have HK := Lib.hid hK
        have HV := Lib.hid hV
        have HKl := Lib.hid (And.intro hKl hVl)
        have HKs := Lib.hid hk1
        have HVs := Lib.hid hv1
        have r0 : w3.cell? ⟨rb, 0, none⟩ = some (.bool false) := by rw [cell_of_blk hb3]; rfl
        have r1 : w3.cell? ⟨rb, 1, none⟩ = some (.int .u64 0) := by rw [cell_of_blk hb3]; rfl
        have r2 : w3.cell? ⟨rb, 2, none⟩ = some (.bool false) := by rw [cell_of_blk hb3]; rfl
        have r3 : w3.cell? ⟨rb, 3, none⟩ = some (.int .u64 0) := by rw [cell_of_blk hb3]; rfl
        have fr : ∀ j, w3.frozen? ⟨rb, j, none⟩ = false := fun j => frozen_of_blk hb3
        have fr0 := fr 0
        have fr1 := fr 1
        have fr2 := fr 2
        have fr3 := fr 3
        have ltr := lt_of_blk hb3
        clear fr hread hkvok hK hV hKl hVl hkl hk1 hk2 hv1 hv2 o3 hok hkvs CM hb3
        go_wp2_with fail
        go_loop [7] (fun iv => ∃ i : Nat, iv = .int .i64 i ∧ i ≤ K.length ∧ ∀ j : Nat, j < i → ∀ x, kvs[j]? = some x → x.1 ≠ ot) (fun iv => K.length - (intOf iv).toNat)
        case atStart => exact ⟨0, rfl, by omega, fun j h => absurd h (by omega)⟩
        case round =>
          obtain ⟨i, rfl, hi, hn⟩ := hrel
          have HN := Lib.hid hn
          clear hn
          by_cases hlt : i < K.length
          · have g3 : decide (i < K.length) = true := decide_eq_true hlt
            obtain ⟨y, hy⟩ : ∃ y, K[i]? = some y := ⟨K[i], List.getElem?_eq_getElem hlt⟩
            obtain ⟨z, hz⟩ : ∃ z, V[i]? = some z := ⟨V[i]'(by have := HKl.out; omega), List.getElem?_eq_getElem _⟩
            obtain ⟨kv, hkv⟩ : ∃ kv, kvs[i]? = some kv := ⟨kvs[i]'(by have := HKl.out; omega), List.getElem?_eq_getElem _⟩
            have h1 : kv.1 = y.data.toList := by
              have := congrArg (·[i]?) HK.out
              simpa [dataL, hy, hkv] using this.symm
            have h2 : kv.2 = z.data.toList := by
              have := congrArg (·[i]?) HV.out
              simpa [dataL, hz, hkv] using this.symm
            have hval := (Hkvok.out kv (List.mem_of_getElem? hkv)).val
            rw [h2] at hval
            unfold valOk at hval
            simp only [Bool.and_eq_true, decide_eq_true_eq] at hval
            obtain ⟨gk, okk, rfl, hgk, hck⟩ := str_cellP HKs.out hy
            obtain ⟨gv, ov, rfl, hgv, hcv⟩ := str_cellP HVs.out hz
            have hzs : z.size ≤ 200 := by rw [← len_data]; exact hval.2.2
            have hVi : (i : Int) < V.length := by have := HKl.out; omega
            have HKV := Lib.hid (And.intro hkv (And.intro h1 h2))
            have CZ := Lib.hid (rmarks_walk z w3 (by omega) (fun e => by rw [e] at hval; simp at hval))
            clear hy hz hkv h1 h2 hval
            by_cases ho : y.data.toList = ot
            · have e1 : (y.toList == [111, 116]) = true := by rw [Lib.toList_data, ho]; rfl
              have HFd := Lib.hid (find_at HKV.out.1 (by rw [HKV.out.2.1, ho]) HN.out)
              clear ho
              go_wp2_with fail
              refine CZ.out.mono ?_
              rintro e w4 ⟨o4, (⟨mk, hm, rfl⟩ | ⟨hm, mk, rfl⟩)⟩
              · have E := Lib.hid (Hread.out (mk, 0) (by rw [HFd.out]; simp only; rw [HKV.out.2.2, hm]))
                obtain ⟨mT, mt, mR, mr⟩ := mk
                simp only [mkArr]
                have hb4 := o4.blk HB3.out (by simp)
                have HF : Hid (∀ W, Only [rb] w4 W → Only [] w W) := Lib.hid (fun W h => (O3.out.trans o4).trans' h (fun x hx hlt => by
                  have e1 := HRB.out
                  simp only [List.mem_singleton] at hx
                  omega))
                clear r0 r1 r2 r3 fr0 fr1 fr2 fr3 ltr hck hcv hgk hgv
                have r0 : w4.cell? ⟨rb, 0, none⟩ = some (.bool false) := by rw [cell_of_blk hb4]; rfl
                have r1 : w4.cell? ⟨rb, 1, none⟩ = some (.int .u64 0) := by rw [cell_of_blk hb4]; rfl
                have r2 : w4.cell? ⟨rb, 2, none⟩ = some (.bool false) := by rw [cell_of_blk hb4]; rfl
                have r3 : w4.cell? ⟨rb, 3, none⟩ = some (.int .u64 0) := by rw [cell_of_blk hb4]; rfl
                have fr : ∀ j, w4.frozen? ⟨rb, j, none⟩ = false := fun j => frozen_of_blk hb4
                have fr0 := fr 0
                have fr1 := fr 1
                have fr2 := fr 2
                have fr3 := fr 3
                have ltr := lt_of_blk hb4
                clear fr hb4 o4 hm
                go_wp2_with fail
                exact bodyPost_ret (v := .tuple #[.agg #[.bool mT, .int .u64 (mt : Int), .bool mR, .int .u64 (mr : Int)], .int .i64 0]) (by simp [results, Tryd.results44, go_sem, *]) rfl ⟨by rw [E.out]; rfl, HF.out _ (((((((Only.refl [rb] w4).setCell (p := ⟨rb, 0, none⟩) (.inl (by simp)) _).setCell (p := ⟨rb, 1, none⟩) (.inl (by simp)) _).setCell (p := ⟨rb, 2, none⟩) (.inl (by simp)) _).setCell (p := ⟨rb, 3, none⟩) (.inl (by simp)) _)).alloc _)⟩
              · have E := Lib.hid (Hread.out (Mk.none, 31) (by rw [HFd.out]; simp only; rw [HKV.out.2.2, hm]))
                obtain ⟨mT, mt, mR, mr⟩ := mk
                simp only [mkArr]
                have hb4 := o4.blk HB3.out (by simp)
                have HF : Hid (∀ W, Only [rb] w4 W → Only [] w W) := Lib.hid (fun W h => (O3.out.trans o4).trans' h (fun x hx hlt => by
                  have e1 := HRB.out
                  simp only [List.mem_singleton] at hx
                  omega))
                clear r0 r1 r2 r3 fr0 fr1 fr2 fr3 ltr hck hcv hgk hgv
                have r0 : w4.cell? ⟨rb, 0, none⟩ = some (.bool false) := by rw [cell_of_blk hb4]; rfl
                have r1 : w4.cell? ⟨rb, 1, none⟩ = some (.int .u64 0) := by rw [cell_of_blk hb4]; rfl
                have r2 : w4.cell? ⟨rb, 2, none⟩ = some (.bool false) := by rw [cell_of_blk hb4]; rfl
                have r3 : w4.cell? ⟨rb, 3, none⟩ = some (.int .u64 0) := by rw [cell_of_blk hb4]; rfl
                have fr : ∀ j, w4.frozen? ⟨rb, j, none⟩ = false := fun j => frozen_of_blk hb4
                have fr0 := fr 0
                have fr1 := fr 1
                have fr2 := fr 2
                have fr3 := fr 3
                have ltr := lt_of_blk hb4
                clear fr hb4 o4 hm
                go_wp2_with fail
                exact bodyPost_ret (v := .tuple #[.agg #[.bool false, .int .u64 0, .bool false, .int .u64 0], .int .i64 31]) (by simp [results, Tryd.results44, go_sem, *]) rfl ⟨by rw [E.out]; rfl, HF.out _ (((((((Only.refl [rb] w4).setCell (p := ⟨rb, 0, none⟩) (.inl (by simp)) _).setCell (p := ⟨rb, 1, none⟩) (.inl (by simp)) _).setCell (p := ⟨rb, 2, none⟩) (.inl (by simp)) _).setCell (p := ⟨rb, 3, none⟩) (.inl (by simp)) _)).alloc _)⟩
            · have e1 : (y.toList == [111, 116]) = false := by rw [Lib.toList_data]; simpa using (show y.data.toList ≠ [111, 116] from ho)
              have HNo := Lib.hid ho
              clear ho CZ
              go_wp2_with fail
              go_round
              case rel => exact ⟨i + 1, by go_num, by omega, fun j hj x hx => if h : j = i then by
                subst h
                rw [HKV.out.1] at hx
                obtain rfl := Option.some.inj hx
                rw [HKV.out.2.1]
                exact HNo.out else HN.out j (by omega) x hx⟩
              case measure => simp [intOf]; omega
          · have g3 : decide (i < K.length) = false := decide_eq_false hlt
            have E := Lib.hid (Hread.out (Mk.none, 0) (by
              rw [find_no (fun j x hx => HN.out j (by
                have := (List.getElem?_eq_some_iff.1 hx).1
                have := HKl.out
                omega) x hx)]))
            have HF : Hid (∀ W, Only [rb] w3 W → Only [] w W) := Lib.hid (fun W h => O3.out.trans' h (fun x hx hlt => by
              have e1 := HRB.out
              simp only [List.mem_singleton] at hx
              omega))
            clear hlt
            go_wp2_with fail
            exact bodyPost_ret (v := .tuple #[.agg #[.bool false, .int .u64 0, .bool false, .int .u64 0], .int .i64 0]) (by simp [results, Tryd.results44, go_sem, *]) rfl ⟨by rw [E.out]; rfl, HF.out _ ((((((Only.refl [rb] w3).setCell (p := ⟨rb, 0, none⟩) (.inl (by simp)) _).setCell (p := ⟨rb, 1, none⟩) (.inl (by simp)) _).setCell (p := ⟨rb, 2, none⟩) (.inl (by simp)) _).setCell (p := ⟨rb, 3, none⟩) (.inl (by simp)) _))⟩

end Go.Proofs.YtfnbkcdcdeojfaaDoor
