/- The document's answer for layer 4, walked: members. -/
import Derived.Test.YtfnbkcdcdeojfaaDoorRd
import Derived.BigQuiet
import Derived.Deep.QuietTactic
set_option linter.unusedVariables false
set_option linter.unusedSimpArgs false
namespace Go.Proofs.YtfnbkcdcdeojfaaDoor
open Go.RowKit Go.Mk Go.Cx
attribute [-go_sem] Builtin.append_

def seenK (kvs : List KV) : List (List UInt8) := (kvs.map (·.1)).reverse
def MembInv (ps : List (List UInt8)) (kvs : List KV) (i : Nat) : Prop :=
  i ≤ ps.length ∧ kvs.length = i ∧ membs [] ps = (kvs ++ (membs (seenK kvs) (ps.drop i)).1, (membs (seenK kvs) (ps.drop i)).2)
theorem MembInv.bad {ps : List (List UInt8)} {kvs : List KV} {i : Nat} {p : List UInt8} (h : MembInv ps kvs i) (hp : ps[i]? = some p) (hb : memOne (seenK kvs) p = none) : (membs [] ps).2 = true := by
  rw [h.2.2]
  obtain ⟨h1, h2⟩ := List.getElem?_eq_some_iff.1 hp
  rw [List.drop_eq_getElem_cons h1, h2]
  unfold membs
  rw [hb]
theorem MembInv.next {ps : List (List UInt8)} {kvs : List KV} {i : Nat} {p : List UInt8} {kv : KV} (h : MembInv ps kvs i) (hp : ps[i]? = some p) (hb : memOne (seenK kvs) p = some kv) : MembInv ps (kvs ++ [kv]) (i + 1) := by
  obtain ⟨h1, h2⟩ := List.getElem?_eq_some_iff.1 hp
  have h3 := h.2.2
  have e : membs (seenK kvs) (p :: ps.drop (i + 1)) = (kv :: (membs (kv.1 :: seenK kvs) (ps.drop (i + 1))).1, (membs (kv.1 :: seenK kvs) (ps.drop (i + 1))).2) := by rw [membs, hb]
  rw [List.drop_eq_getElem_cons h1, h2, e] at h3
  refine ⟨by omega, by rw [List.length_append, h.2.1]; rfl, ?_⟩
  rw [h3]
  simp [seenK]
theorem MembInv.done {ps : List (List UInt8)} {kvs : List KV} {i : Nat} (h : MembInv ps kvs i) (hi : ps.length ≤ i) : membs [] ps = (kvs, false) := by
  rw [h.2.2, List.drop_eq_nil_of_le hi]
  simp [membs]

theorem mem_no_cut {seen : List (List UInt8)} {p : List UInt8} (h : posC 61 p = none) : memOne seen p = none := by
  unfold memOne
  rw [pos_cut.1 h]; rfl
theorem mem_no_key {seen : List (List UInt8)} {p : List UInt8} {k : Nat} (h : posC 61 p = some k) (hk : keyOk (p.take k) = false) : memOne seen p = none := by
  unfold memOne
  rw [(pos_cut.2 k h).1]; simp [hk]
theorem mem_no_val {seen : List (List UInt8)} {p : List UInt8} {k : Nat} (h : posC 61 p = some k) (hk : valOk (p.drop (k + 1)) = false) : memOne seen p = none := by
  unfold memOne
  rw [(pos_cut.2 k h).1]; simp [hk]
theorem mem_no_seen {seen : List (List UInt8)} {p : List UInt8} {k : Nat} (h : posC 61 p = some k) (hk : p.take k ∈ seen) : memOne seen p = none := by
  unfold memOne
  rw [(pos_cut.2 k h).1]; simp [hk]
theorem mem_yes {seen : List (List UInt8)} {p : List UInt8} {k : Nat} (h : posC 61 p = some k) (h1 : keyOk (p.take k) = true) (h2 : valOk (p.drop (k + 1)) = true) (hk : p.take k ∉ seen) : memOne seen p = some (p.take k, p.drop (k + 1)) := by
  unfold memOne
  rw [(pos_cut.2 k h).1]; simp [h1, h2, hk]

def MembPost (l : List UInt8) (w : World) (e : Ending) (w' : World) : Prop :=
  Only [] w w' ∧ (((membs [] (partsC 44 l)).2 = true ∧ e = .returned (.tuple #[.slice none 0 0, .slice none 0 0, .bool false])) ∨
    ((membs [] (partsC 44 l)).2 = false ∧ ∃ kv vv K V, e = .returned (.tuple #[kv, vv, .bool true]) ∧ Texts w w' kv K ∧ Texts w w' vv V ∧ dataL K = (membs [] (partsC 44 l)).1.map (·.1) ∧ dataL V = (membs [] (partsC 44 l)).1.map (·.2)))

theorem Texts.cell {w0 W : World} {p : Option Addr} {n c : Nat} {L : List ByteArray} (h : Texts w0 W (.slice p n c) L) {j : Nat} {x : ByteArray} (hx : L[j]? = some x) : n = L.length ∧ ∃ g o, p = some ⟨g, o, none⟩ ∧ g < W.heap.size ∧ W.cell? ⟨g, o + j, none⟩ = some (.string x) := by
  obtain ⟨p', c', he, h1, h2⟩ := h
  obtain ⟨rfl, rfl, rfl⟩ := Value.slice.inj he
  exact ⟨rfl, str_cellP h1 hx⟩

set_option maxRecDepth 100000 in
set_option maxHeartbeats 4000000 in
theorem rmembers_walk (s : ByteArray) (w : World) (hs : s.size ≤ 90000) :
    Calls Tryd.prog 46 #[.string s] w (MembPost s.data.toList w) := by
  have C := Lib.hid (rsplit_walk s 44 w hs)
  go_enter Tryd.func46, Tryd.ntmps46
  go_wp2_with fail
  refine C.out.mono ?_
  rintro e w1 ⟨v, L, rfl, hT, hL, o1⟩
  obtain ⟨lp, lc, rfl, hsl, hlb⟩ := hT
  obtain ⟨ps, hps⟩ : ∃ ps, partsC 44 s.data.toList = ps := ⟨_, rfl⟩
  rw [hps] at hL
  have hpl : ps.length ≤ 90001 := by
    rw [← hps]
    unfold partsC
    split
    · simp
    · have := split_count 44 s.data.toList; rw [len_data] at this; omega
  have hLl : L.length = ps.length := by rw [← hL]; unfold dataL; rw [List.length_map]
  have hLi : (L.length : Int) ≤ 90001 := by omega
  have HL := Lib.hid hL
  have HPs := Lib.hid hps
  have HSl := Lib.hid hsl
  have HLb := Lib.hid hlb
  have O1 := Lib.hid o1
  have HLl := Lib.hid hLl
  have hlt1 := Lib.hid hsl.lt
  clear hL hps hsl hlb o1 hLl C hpl
  go_wp2_with fail
  go_loopw [5, 6, 8] (fun kv vv iv wr => ∃ (i : Nat) (kvs : List KV) (K V : List ByteArray), iv = .int .i64 i ∧ MembInv ps kvs i ∧ Texts w1 wr kv K ∧ Texts w1 wr vv V ∧ dataL K = kvs.map (·.1) ∧ dataL V = kvs.map (·.2) ∧ (∀ g ∈ blockOf kv, g ∉ blockOf vv) ∧ Only [] w1 wr) (fun _ _ iv _ => L.length - (intOf iv).toNat)
  case atStart => exact ⟨0, [], [], [], rfl, ⟨by omega, rfl, rfl⟩, Texts.nil _ _, Texts.nil _ _, rfl, rfl, by simp [blockOf], Only.refl _ _⟩
  case round =>
    obtain ⟨i, kvs, K, V, rfl, hI, ⟨kp, kc, rfl, hk1, hk2⟩, ⟨vp, vc, rfl, hv1, hv2⟩, hK, hV, hdj, ho⟩ := hrel
    by_cases hi : i < L.length
    · have g1 : decide (i < L.length) = true := decide_eq_true hi
      obtain ⟨x, hx⟩ : ∃ x, L[i]? = some x := ⟨L[i], List.getElem?_eq_getElem hi⟩
      have hpi : ps[i]? = some x.data.toList := by rw [← HL.out]; unfold dataL; rw [List.getElem?_map, hx]; rfl
      have hsl2 := HSl.out.only ho (by simp)
      obtain ⟨gl, ol, rfl, hgl, hcl⟩ := str_cellP hsl2 hx
      have hxs : x.size ≤ 90000 := by
        have h1 : x.data.toList ∈ ps := List.mem_of_getElem? hpi
        rw [← HPs.out] at h1
        unfold partsC at h1
        split at h1
        · cases h1
        · have := splitC_len 44 _ _ h1
          rw [len_data, len_data] at this
          omega
      have CP := Lib.hid (rplace_walk x 61 wr (by omega))
      have HI := Lib.hid hI
      have HK := Lib.hid hK
      have HV := Lib.hid hV
      have HKs := Lib.hid (And.intro hk1 hk2)
      have HVs := Lib.hid (And.intro hv1 hv2)
      have HD := Lib.hid hdj
      have HO := Lib.hid ho
      have HP := Lib.hid hpi
      have HX := Lib.hid hx
      have HSL := Lib.hid hsl2
      clear hI hK hV hk1 hk2 hv1 hv2 hdj ho hpi hx hsl2
      cases hpo : posC 61 x.data.toList with
      | none =>
        have hpv : placeV 61 x.data.toList = -1 := by unfold placeV; rw [hpo]
        rw [hpv] at CP
        have HB := Lib.hid (HI.out.bad HP.out (mem_no_cut hpo))
        clear hpo hpv
        go_wp2_with fail
        refine CP.out.mono ?_
        rintro e w' ⟨rfl, rfl⟩
        go_wp2_with fail
        exact bodyPost_ret (v := .tuple #[.slice none 0 0, .slice none 0 0, .bool false]) (by simp [results, Tryd.results46, go_sem]) rfl ⟨O1.out.trans HO.out, .inl ⟨by rw [HPs.out]; exact HB.out, rfl⟩⟩
      | some k =>
        have hpv : placeV 61 x.data.toList = k := by unfold placeV; rw [hpo]
        rw [hpv] at CP
        have hkl := (pos_cut.2 k hpo).2
        rw [len_data] at hkl
        have g2 : decide ((k : Int) < 0) = false := decide_eq_false (by omega)
        have k1 : (0 : Int) ≤ k := by omega
        have k2 : (k : Int) ≤ x.size := by omega
        have k3 : (k : Int) + 1 ≤ x.size := by omega
        have k4 : ((k : Int) + 1).toNat = k + 1 := by omega
        have hkd : (x.extract 0 k).data.toList = x.data.toList.take k := by rw [Lib.extract_data]; simp
        have hvd : (x.extract (k + 1) x.size).data.toList = x.data.toList.drop (k + 1) := by
          rw [Lib.extract_data]
          exact List.take_of_length_le (by rw [List.length_drop, len_data]; exact Nat.le_refl _)
        have CK := rkey_walk (x.extract 0 k) wr (by simp; omega)
        have CV := rvalue_walk (x.extract (k + 1) x.size) wr (by simp; omega)
        rw [hkd] at CK
        rw [hvd] at CV
        have HPO := Lib.hid hpo
        have HKD := Lib.hid hkd
        have HVD := Lib.hid hvd
        clear hpo hpv hkd hvd
        cases hko : keyOk (x.data.toList.take k) with
        | false =>
          rw [hko] at CK
          have HB := Lib.hid (HI.out.bad HP.out (mem_no_key HPO.out hko))
          have CK := Lib.hid CK
          clear hko CV
          go_wp2_with fail
          refine CP.out.mono ?_
          rintro e w' ⟨rfl, rfl⟩
          go_wp2_with fail
          refine CK.out.mono ?_
          rintro e w' ⟨rfl, rfl⟩
          go_wp2_with fail
          exact bodyPost_ret (v := .tuple #[.slice none 0 0, .slice none 0 0, .bool false]) (by simp [results, Tryd.results46, go_sem]) rfl ⟨O1.out.trans HO.out, .inl ⟨by rw [HPs.out]; exact HB.out, rfl⟩⟩
        | true =>
          rw [hko] at CK
          cases hvo : valOk (x.data.toList.drop (k + 1)) with
          | false =>
            rw [hvo] at CV
            have HB := Lib.hid (HI.out.bad HP.out (mem_no_val HPO.out hvo))
            have CK := Lib.hid CK
            have CV := Lib.hid CV
            clear hko hvo
            go_wp2_with fail
            refine CP.out.mono ?_
            rintro e w' ⟨rfl, rfl⟩
            go_wp2_with fail
            refine CK.out.mono ?_
            rintro e w' ⟨rfl, rfl⟩
            go_wp2_with fail
            refine CV.out.mono ?_
            rintro e w' ⟨rfl, rfl⟩
            go_wp2_with fail
            exact bodyPost_ret (v := .tuple #[.slice none 0 0, .slice none 0 0, .bool false]) (by simp [results, Tryd.results46, go_sem]) rfl ⟨O1.out.trans HO.out, .inl ⟨by rw [HPs.out]; exact HB.out, rfl⟩⟩
          | true =>
            rw [hvo] at CV
            have CK := Lib.hid CK
            have CV := Lib.hid CV
            have HKO := Lib.hid (And.intro hko hvo)
            clear hko hvo
            have hKl : (K.length : Int) ≤ 90001 := by
              have h1 := congrArg List.length HK.out
              have h2 := HI.out.2.1
              have h3 := HLl.out
              unfold dataL at h1
              rw [List.length_map, List.length_map] at h1
              omega
            have hVl : (V.length : Int) ≤ 90001 := by
              have h1 := congrArg List.length HV.out
              have h2 := HI.out.2.1
              have h3 := HLl.out
              unfold dataL at h1
              rw [List.length_map, List.length_map] at h1
              omega
            go_wp2_with fail
            refine CP.out.mono ?_
            rintro e w' ⟨rfl, rfl⟩
            go_wp2_with fail
            refine CK.out.mono ?_
            rintro e w' ⟨rfl, rfl⟩
            go_wp2_with fail
            refine CV.out.mono ?_
            rintro e w' ⟨rfl, rfl⟩
            go_wp2_with fail
            obtain ⟨w0, hw0⟩ : ∃ w0, w0 = w' := ⟨_, rfl⟩
            rw [← hw0] at HKs HVs HO HSL
            have HW0 := Lib.hid hw0
            clear CP CK CV hcl hgl hw0
            go_loopw [10] (fun jv wj => ∃ j : Nat, jv = .int .i64 j ∧ j ≤ K.length ∧ (∀ t y, t < j → K[t]? = some y → y.data.toList ≠ x.data.toList.take k) ∧ Only [] w0 wj) (fun jv _ => K.length - (intOf jv).toNat)
            case atStart => exact ⟨0, rfl, by omega, fun t y h => absurd h (by omega), by rw [HW0.out]; exact Only.refl _ _⟩
            case round =>
              obtain ⟨j, rfl, hj, hne, ho2⟩ := hrel
              obtain ⟨gl2, ol2, hel, hgl, hcl⟩ := str_cellP (HSL.out.only ho2 (by simp)) HX.out
              obtain ⟨hg1, ho1, _⟩ := Addr.mk.inj (Option.some.inj hel)
              subst hg1 ho1
              have Ho2 := Lib.hid ho2
              have hK2 := HKs.out.1.only ho2 (by simp)
              have HNe := Lib.hid hne
              clear hel ho2 hne
              by_cases hjl : j < K.length
              · have g3 : decide (j < K.length) = true := decide_eq_true hjl
                obtain ⟨y, hy⟩ : ∃ y, K[j]? = some y := ⟨K[j], List.getElem?_eq_getElem hjl⟩
                obtain ⟨gk, ok, rfl, hgk, hck⟩ := str_cellP hK2 hy
                have HY := Lib.hid hy
                clear hK2 hy
                by_cases hyk : y.data.toList = x.data.toList.take k
                · have e1 : (y.toList == (x.extract 0 k).toList) = true := by rw [Lib.toList_data, Lib.toList_data, HKD.out, hyk]; simp
                  have HB := Lib.hid (HI.out.bad HP.out (mem_no_seen HPO.out (by
                    unfold seenK
                    rw [List.mem_reverse, ← HK.out, ← hyk]
                    exact List.mem_map.2 ⟨y, List.mem_of_getElem? HY.out, rfl⟩)))
                  clear hyk
                  go_wp2_with fail
                  go_quiet (fail)
                  go_wp2_with fail
                  exact bodyPost_ret (v := .tuple #[.slice none 0 0, .slice none 0 0, .bool false]) (by simp [results, Tryd.results46, go_sem]) rfl ⟨O1.out.trans (HO.out.trans (Ho2.out.drewN _)), .inl ⟨by rw [HPs.out]; exact HB.out, rfl⟩⟩
                · have e1 : (y.toList == (x.extract 0 k).toList) = false := by rw [Lib.toList_data, Lib.toList_data, HKD.out]; simpa using hyk
                  have HYK := Lib.hid hyk
                  clear hyk
                  go_wp2_with fail
                  go_quiet (fail)
                  go_wp2_with fail
                  refine ⟨⟨j + 1, by go_num, by omega, fun t y2 ht hy2 => ?_, Ho2.out.drewN _⟩, by simp [intOf]; omega⟩
                  by_cases htj : t = j
                  · subst htj
                    rw [HY.out] at hy2
                    obtain rfl := Option.some.inj hy2
                    exact HYK.out
                  · exact HNe.out t y2 (by omega) hy2
              · have g3 : decide (j < K.length) = false := decide_eq_false hjl
                have hns : x.data.toList.take k ∉ seenK kvs := by
                  unfold seenK
                  rw [List.mem_reverse, ← HK.out]
                  intro hm
                  obtain ⟨y, hy, he⟩ := List.mem_map.1 hm
                  obtain ⟨t, ht, hte⟩ := List.mem_iff_getElem.1 hy
                  exact HNe.out t y (by omega) (by rw [List.getElem?_eq_getElem ht, hte]) he
                have HN := Lib.hid (HI.out.next HP.out (mem_yes HPO.out HKO.out.1 HKO.out.2 hns))
                have hOr := HO.out.trans Ho2.out
                have hglw : gl < w1.heap.size := hlt1.out gl (by simp [blockOf])
                obtain ⟨gk, ok, kc9, w9, hap, hk9, o9, hgk⟩ := str_append hK2 (by omega) (x.extract 0 k)
                have hV2 := (HVs.out.1.only Ho2.out (by simp)).only o9 (fun b hb hm => HD.out b hm hb)
                obtain ⟨gv, ov, vc9, w10, hap2, hv10, o10, hgv⟩ := str_append hV2 (by omega) (x.extract (k + 1) x.size)
                have hkge : ∀ g ∈ blockOf (.slice kp K.length kc), w1.heap.size ≤ g := HKs.out.2
                have hcl9 := o9.cell hcl (fun hm => by have := hkge _ hm; simp at this; omega)
                have hgl9 := o9.lt hgl
                have HA := Lib.hid (And.intro hOr (And.intro hk9 (And.intro o9 (And.intro hgk (And.intro hv10 (And.intro o10 hgv))))))
                clear hns hOr hk9 hV2 hv10 hK2 o9 o10 hgk hgv hkge hglw hjl
                go_wp2_with fail
                obtain ⟨hOr, hk9, o9, hgk, hv10, o10, hgv⟩ := HA.out
                have hvlt := (HVs.out.1.only Ho2.out (by simp)).lt
                have hkv : ∀ g, g = gk → g ∉ blockOf (.slice vp V.length vc) := fun g hg hm => by
                  subst hg
                  rcases hgk with h | h
                  · exact HD.out _ h hm
                  · have := hvlt _ hm; omega
                have hge : ∀ g, g = gk → w1.heap.size ≤ g := fun g hg => by
                  subst hg
                  rcases hgk with h | h
                  · exact HKs.out.2 _ h
                  · exact Nat.le_trans hOr.size h
                have hge2 : ∀ g, g = gv → w1.heap.size ≤ g := fun g hg => by
                  subst hg
                  rcases hgv with h | h
                  · exact HVs.out.2 _ h
                  · exact Nat.le_trans hOr.size (Nat.le_trans o9.size h)
                have hgk9 : gk < w9.heap.size := hk9.lt gk (by simp [blockOf])
                refine ⟨⟨i + 1, kvs ++ [(x.data.toList.take k, x.data.toList.drop (k + 1))], K ++ [x.extract 0 k], V ++ [x.extract (k + 1) x.size], by go_num, HN.out,
                  ⟨_, _, by rw [List.length_append]; rfl, by rw [List.length_append]; exact hk9.only o10 (fun b hb => hkv b (by simpa [blockOf] using hb)), fun g hg => hge g (by simpa [blockOf] using hg)⟩,
                  ⟨_, _, by rw [List.length_append]; rfl, by rw [List.length_append]; exact hv10, fun g hg => hge2 g (by simpa [blockOf] using hg)⟩,
                  by have := HK.out; unfold dataL at this ⊢; rw [List.map_append, List.map_append, this]; simp [HKD.out],
                  by have := HV.out; unfold dataL at this ⊢; rw [List.map_append, List.map_append, this, List.map_singleton, List.map_singleton, HVD.out],
                  fun g hg hm => ?_, only_fresh (only_fresh hOr o9 HKs.out.2) o10 HVs.out.2⟩, by simp [intOf]; omega⟩
                simp only [blockOf, List.mem_singleton] at hg hm
                rcases hgv with h | h
                · exact hkv g hg (by rw [hm]; exact h)
                · omega
    · have g1 : decide (i < L.length) = false := decide_eq_false hi
      have hd := hI.done (by rw [← HLl.out]; omega)
      have HD := Lib.hid hd
      have HF := Lib.hid (And.intro hk1 (And.intro hk2 (And.intro hv1 (And.intro hv2 (And.intro hK (And.intro hV ho))))))
      clear hI hd hk1 hk2 hv1 hv2 hK hV hdj ho hi
      go_wp2_with fail
      obtain ⟨hk1, hk2, hv1, hv2, hK, hV, ho⟩ := HF.out
      have hm : membs [] (partsC 44 s.data.toList) = (kvs, false) := by rw [HPs.out]; exact HD.out
      exact bodyPost_ret (v := .tuple #[.slice kp K.length kc, .slice vp V.length vc, .bool true]) (by simp [results, Tryd.results46, go_sem]) rfl
        ⟨O1.out.trans ho, .inr ⟨by rw [hm], _, _, K, V, rfl, ⟨kp, kc, rfl, hk1, fun g hg => Nat.le_trans O1.out.size (hk2 g hg)⟩, ⟨vp, vc, rfl, hv1, fun g hg => Nat.le_trans O1.out.size (hv2 g hg)⟩, by rw [hm]; exact hK, by rw [hm]; exact hV⟩⟩

end Go.Proofs.YtfnbkcdcdeojfaaDoor
