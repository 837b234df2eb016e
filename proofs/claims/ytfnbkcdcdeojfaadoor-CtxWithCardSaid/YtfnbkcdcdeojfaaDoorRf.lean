/- The document's answer for layer 4, walked: marks. -/
import Derived.Test.YtfnbkcdcdeojfaaDoorRe
set_option linter.unusedVariables false
set_option linter.unusedSimpArgs false
namespace Go.Proofs.YtfnbkcdcdeojfaaDoor
open Go.RowKit Go.Mk Go.Cx
attribute [-go_sem] Builtin.append_

def MarksPost (l : List UInt8) (w : World) (e : Ending) (w' : World) : Prop :=
  Only [] w w' ∧ ((∃ mk, marksL l = some mk ∧ e = .returned (.tuple #[.agg (mkArr mk), .bool true])) ∨ (marksL l = none ∧ ∃ mk, e = .returned (.tuple #[.agg (mkArr mk), .bool false])))
def MInv (ps : List (List UInt8)) (mk : Mk) (i : Nat) : Prop := marksA Mk.none ps = marksA mk (ps.drop i)
theorem cons_drop_g {l : List (List UInt8)} {i : Nat} {c : List UInt8} (h : l[i]? = some c) : l.drop i = c :: l.drop (i + 1) := by
  obtain ⟨h1, h2⟩ := List.getElem?_eq_some_iff.1 h
  rw [List.drop_eq_getElem_cons h1, h2]
theorem MInv.bad {ps : List (List UInt8)} {mk : Mk} {i : Nat} {p : List UInt8} (h : MInv ps mk i) (hp : ps[i]? = some p) (hb : markOne mk p = none) : marksA Mk.none ps = none := by
  rw [h, cons_drop_g hp, marksA, hb]; rfl
theorem MInv.next {ps : List (List UInt8)} {mk mk' : Mk} {i : Nat} {p : List UInt8} (h : MInv ps mk i) (hp : ps[i]? = some p) (hb : markOne mk p = some mk') : MInv ps mk' (i + 1) := by
  unfold MInv at *
  rw [h, cons_drop_g hp, marksA, hb]; rfl
theorem MInv.done {ps : List (List UInt8)} {mk : Mk} {i : Nat} (h : MInv ps mk i) (hi : ps.length ≤ i) : marksA Mk.none ps = some mk := by
  rw [h, List.drop_eq_nil_of_le hi]; rfl

theorem mk_cut {m : Mk} {p : List UInt8} (h : posC 58 p = none) : markOne m p = none := by
  unfold markOne; rw [if_pos (pos_cut.1 h)]
theorem mk_th_bad {m : Mk} {p : List UInt8} {k : Nat} (h : posC 58 p = some k) (hn : p.take k = [116, 104]) (hb : m.hasT = true ∨ hexOk (p.drop (k + 1)) = false ∨ (p.drop (k + 1)).length < 1 ∨ 14 < (p.drop (k + 1)).length) : markOne m p = none := by
  unfold markOne
  rw [(pos_cut.2 k h).1]
  simp only [hn]
  rw [if_neg (by simp), if_pos trivial]
  by_cases hT : m.hasT = true
  · rw [if_pos hT]
  · rw [if_neg hT]
    unfold thr
    split
    · rename_i hl
      rcases hb with hb | hb | hb | hb
      · exact absurd hb hT
      · rw [hexOk_false hb]; rfl
      · omega
      · omega
    · rfl
theorem mk_th {m : Mk} {p : List UInt8} {k : Nat} (h : posC 58 p = some k) (hn : p.take k = [116, 104]) (hT : m.hasT = false) (ho : hexOk (p.drop (k + 1)) = true) (h1 : 1 ≤ (p.drop (k + 1)).length) (h2 : (p.drop (k + 1)).length ≤ 14) :
    markOne m p = some { m with hasT := true, t := hexV (p.drop (k + 1)) * 16 ^ (14 - (p.drop (k + 1)).length) } := by
  unfold markOne
  rw [(pos_cut.2 k h).1]
  simp only [hn]
  rw [if_neg (by simp), if_pos trivial, if_neg (by simp [hT])]
  unfold thr
  rw [if_pos ⟨h1, h2⟩, hexOk_true ho]
  rfl
theorem mk_rv_bad {m : Mk} {p : List UInt8} {k : Nat} (h : posC 58 p = some k) (hn : p.take k = [114, 118]) (hb : m.hasR = true ∨ hexOk (p.drop (k + 1)) = false ∨ (p.drop (k + 1)).length ≠ 14) : markOne m p = none := by
  unfold markOne
  rw [(pos_cut.2 k h).1]
  simp only [hn]
  rw [if_neg (by simp), if_neg (by decide), if_pos trivial]
  by_cases hT : m.hasR = true
  · rw [if_pos hT]
  · rw [if_neg hT]
    unfold drawn
    split
    · rename_i hl
      rcases hb with hb | hb | hb
      · exact absurd hb hT
      · rw [hexOk_false hb]; rfl
      · exact absurd hl hb
    · rfl
theorem mk_rv {m : Mk} {p : List UInt8} {k : Nat} (h : posC 58 p = some k) (hn : p.take k = [114, 118]) (hT : m.hasR = false) (ho : hexOk (p.drop (k + 1)) = true) (h1 : (p.drop (k + 1)).length = 14) :
    markOne m p = some { m with hasR := true, r := hexV (p.drop (k + 1)) } := by
  unfold markOne
  rw [(pos_cut.2 k h).1]
  simp only [hn]
  rw [if_neg (by simp), if_neg (by decide), if_pos trivial, if_neg (by simp [hT])]
  unfold drawn
  rw [if_pos h1, hexOk_true ho]
  rfl
theorem mk_else {m : Mk} {p : List UInt8} {k : Nat} (h : posC 58 p = some k) (hn : p.take k ≠ [116, 104]) (hn2 : p.take k ≠ [114, 118]) : markOne m p = some m := by
  unfold markOne
  rw [(pos_cut.2 k h).1]
  simp only
  rw [if_neg (by simp), if_neg hn, if_neg hn2]

set_option maxRecDepth 100000 in
set_option maxHeartbeats 8000000 in
theorem rmarks_walk (s : ByteArray) (w : World) (hs : s.size ≤ 80000) (hne : s.data.toList ≠ []) :
    Calls Tryd.prog 62 #[.string s] w (MarksPost s.data.toList w) := by
  have o1 : Only [] w ((w.alloc (.cells #[.bool false, .int .u64 0, .bool false, .int .u64 0] 29)).alloc (.cells #[.bool false, .int .u64 0, .bool false, .int .u64 0] 29)) := ((Only.refl _ _).alloc _).alloc _
  have hb1 : ((w.alloc (.cells #[.bool false, .int .u64 0, .bool false, .int .u64 0] 29)).alloc (.cells #[.bool false, .int .u64 0, .bool false, .int .u64 0] 29)).heap[w.heap.size]? = _ := ((Only.refl [] _).alloc _).blk (heap_alloc_new _ _) (by simp)
  have hb2 := heap_alloc_new (w.alloc (.cells #[.bool false, .int .u64 0, .bool false, .int .u64 0] 29)) (.cells #[.bool false, .int .u64 0, .bool false, .int .u64 0] 29)
  rw [World.size_alloc] at hb2
  have C := Lib.hid (rsplit_walk s 59 ((w.alloc (.cells #[.bool false, .int .u64 0, .bool false, .int .u64 0] 29)).alloc (.cells #[.bool false, .int .u64 0, .bool false, .int .u64 0] 29)) (by omega))
  have O1 := Lib.hid o1
  have HB1 := Lib.hid hb1
  have HB2 := Lib.hid hb2
  have hsz : ((w.alloc (.cells #[.bool false, .int .u64 0, .bool false, .int .u64 0] 29)).alloc (.cells #[.bool false, .int .u64 0, .bool false, .int .u64 0] 29)).heap.size = w.heap.size + 2 := by simp
  have Hsz := Lib.hid hsz
  clear o1 hb1 hb2 hsz
  go_enter Tryd.func62, Tryd.ntmps62
  go_wp2_with fail
  generalize (w.alloc (.cells #[.bool false, .int .u64 0, .bool false, .int .u64 0] 29)).alloc (.cells #[.bool false, .int .u64 0, .bool false, .int .u64 0] 29) = w1 at *
  generalize hrb : w.heap.size = rb at *
  generalize hmb : rb + 1 = mb at *
  have HRB := Lib.hid (And.intro hrb hmb)
  clear hrb hmb
  refine C.out.mono ?_
  rintro e w2 ⟨v, L, rfl, hT, hL, o2⟩
  obtain ⟨lp, lc, rfl, hsl, hlb⟩ := hT
  obtain ⟨ps, hps⟩ : ∃ ps, partsC 59 s.data.toList = ps := ⟨_, rfl⟩
  have hML : marksL s.data.toList = marksA Mk.none ps := by
    unfold marksL
    rw [← hps]
    unfold partsC
    rw [if_neg hne]
  rw [hps] at hL
  have hpl : ps.length ≤ 80001 := by
    rw [← hps]
    unfold partsC
    split
    · simp
    · have := split_count 59 s.data.toList; rw [len_data] at this; omega
  have hpx : ∀ p ∈ ps, p.length ≤ 80000 := by
    intro p hp
    rw [← hps] at hp
    unfold partsC at hp
    split at hp
    · cases hp
    · have := splitC_len 59 _ _ hp
      rw [len_data] at this
      omega
  have hLl : L.length = ps.length := by rw [← hL]; unfold dataL; rw [List.length_map]
  have hLi : (L.length : Int) ≤ 80001 := by omega
  have HL := Lib.hid hL
  have HSl := Lib.hid hsl
  have HLb := Lib.hid hlb
  have HLl := Lib.hid hLl
  have HMl := Lib.hid hML
  have HPx := Lib.hid hpx
  have hlt1 := Lib.hid hsl.lt
  have HR2 := Lib.hid (o2.blk HB1.out (by simp))
  have HM2 := Lib.hid (o2.blk HB2.out (by simp))
  have HOut : Hid (∀ W, Only [rb, mb] w2 W → Only [] w W) := Lib.hid (fun W h => (O1.out.trans o2).trans' h (fun x hx hlt => by
    have e1 := HRB.out
    simp only [List.mem_cons, List.not_mem_nil, or_false] at hx
    omega))
  have hsz2 := o2.size
  have hgn : ∀ g ∈ blockOf (.slice lp L.length lc), rb < g ∧ mb < g := fun g hg => by
    have h1 := hlb g hg
    have h2 := Hsz.out
    have h3 := HRB.out
    omega
  have Hgn := Lib.hid hgn
  clear hL hps hsl hlb hLl hML hpl hpx C o2 hsz2 hgn HB1 HB2 O1 hne
  go_wp2_with fail
  go_loopw [6] (fun iv wr => ∃ (i : Nat) (mk : Mk), iv = .int .i64 i ∧ MInv ps mk i ∧ i ≤ L.length ∧ Only [mb] w2 wr ∧ wr.heap[mb]? = some (.cells (mkArr mk) 29 (0, 0))) (fun iv _ => L.length - (intOf iv).toNat)
  case atStart => exact ⟨0, Mk.none, rfl, rfl, by omega, Only.refl _ _, HM2.out⟩
  case round =>
    obtain ⟨i, ⟨kT, kt, kR, kr⟩, rfl, hI, hil, ho, hmk⟩ := hrel
    simp only [mkArr] at hmk
    have hne' : mb ≠ rb := by have := HRB.out; omega
    have hr := ho.blk HR2.out (by simpa using fun e : rb = mb => hne' e.symm)
    have c0 : wr.cell? ⟨mb, 0, none⟩ = some (.bool kT) := by rw [cell_of_blk hmk]; rfl
    have c1 : wr.cell? ⟨mb, 1, none⟩ = some (.int .u64 (kt : Int)) := by rw [cell_of_blk hmk]; rfl
    have c2 : wr.cell? ⟨mb, 2, none⟩ = some (.bool kR) := by rw [cell_of_blk hmk]; rfl
    have c3 : wr.cell? ⟨mb, 3, none⟩ = some (.int .u64 (kr : Int)) := by rw [cell_of_blk hmk]; rfl
    have r0 : wr.cell? ⟨rb, 0, none⟩ = some (.bool false) := by rw [cell_of_blk hr]; rfl
    have r1 : wr.cell? ⟨rb, 1, none⟩ = some (.int .u64 0) := by rw [cell_of_blk hr]; rfl
    have r2 : wr.cell? ⟨rb, 2, none⟩ = some (.bool false) := by rw [cell_of_blk hr]; rfl
    have r3 : wr.cell? ⟨rb, 3, none⟩ = some (.int .u64 0) := by rw [cell_of_blk hr]; rfl
    have fm : ∀ j, wr.frozen? ⟨mb, j, none⟩ = false := fun j => frozen_of_blk hmk
    have fr : ∀ j, wr.frozen? ⟨rb, j, none⟩ = false := fun j => frozen_of_blk hr
    have fm0 := fm 0
    have fm1 := fm 1
    have fm2 := fm 2
    have fm3 := fm 3
    have fr0 := fr 0
    have fr1 := fr 1
    have fr2 := fr 2
    have fr3 := fr 3
    have ltm := lt_of_blk hmk
    have ltr := lt_of_blk hr
    have n1 : ¬ mb = rb := hne'
    have n2 : ¬ rb = mb := fun e => hne' e.symm
    have HO := Lib.hid ho
    have HMK := Lib.hid hmk
    have HI := Lib.hid hI
    clear ho hmk hr fm fr hI hne'
    by_cases hi : i < L.length
    · have g1 : decide (i < L.length) = true := decide_eq_true hi
      obtain ⟨x, hx⟩ : ∃ x, L[i]? = some x := ⟨L[i], List.getElem?_eq_getElem hi⟩
      have hpi : ps[i]? = some x.data.toList := by rw [← HL.out]; unfold dataL; rw [List.getElem?_map, hx]; rfl
      have hgall : ∀ g ∈ blockOf (.slice lp L.length lc), g ∉ [mb] := fun g hg hm => by
        have := Hgn.out g hg
        simp only [List.mem_singleton] at hm
        omega
      obtain ⟨gl, ol, rfl, hgl, hcl⟩ := str_cellP (HSl.out.only HO.out hgall) hx
      have hgg := Hgn.out gl (by simp [blockOf])
      have n3 : ¬ gl = mb := by omega
      have n4 : ¬ gl = rb := by omega
      have n5 : ¬ mb = gl := by omega
      have n6 : ¬ rb = gl := by omega
      have hxs : x.size ≤ 80000 := by rw [← len_data]; exact HPx.out _ (List.mem_of_getElem? hpi)
      have CP := Lib.hid (rplace_walk x 58 wr (by omega))
      have HP := Lib.hid hpi
      clear hpi hgall hx hgg
      cases hpo : posC 58 x.data.toList with
      | none =>
        have hpv : placeV 58 x.data.toList = -1 := by unfold placeV; rw [hpo]
        rw [hpv] at CP
        have HB := Lib.hid (HI.out.bad HP.out (mk_cut hpo))
        clear hpo hpv
        go_wp2_with fail
        refine CP.out.mono ?_
        rintro e w' ⟨rfl, rfl⟩
        go_wp2_with fail
        exact bodyPost_ret (v := .tuple #[.agg #[.bool kT, .int .u64 (kt : Int), .bool kR, .int .u64 (kr : Int)], .bool false]) (by simp [results, Tryd.results62, go_sem, *]) rfl ⟨HOut.out _ ((((((HO.out.mono (fun k hk _ => by simp only [List.mem_singleton] at hk; simp [hk]) : Only [rb, mb] w2 _)).setCell (p := ⟨rb, 0, none⟩) (.inl (by simp)) _).setCell (p := ⟨rb, 1, none⟩) (.inl (by simp)) _).setCell (p := ⟨rb, 2, none⟩) (.inl (by simp)) _).setCell (p := ⟨rb, 3, none⟩) (.inl (by simp)) _), .inr ⟨by rw [HMl.out]; exact HB.out, ⟨kT, kt, kR, kr⟩, rfl⟩⟩
      | some k =>
        have hpv : placeV 58 x.data.toList = k := by unfold placeV; rw [hpo]
        rw [hpv] at CP
        have hkl := (pos_cut.2 k hpo).2
        rw [len_data] at hkl
        have g2 : decide ((k : Int) < 0) = false := decide_eq_false (by omega)
        have k1 : (0 : Int) ≤ k := by omega
        have k2 : (k : Int) ≤ x.size := by omega
        have k3 : (k : Int) + 1 ≤ x.size := by omega
        have k4 : ((k : Int) + 1).toNat = k + 1 := by omega
        have hkd : (x.extract 0 k).toList = x.data.toList.take k := by rw [Lib.toList_data, Lib.extract_data]; simp
        obtain ⟨V, hV⟩ : ∃ V : ByteArray, V = x.extract (k + 1) x.size := ⟨_, rfl⟩
        have hvd : V.data.toList = x.data.toList.drop (k + 1) := by
          rw [hV, Lib.extract_data]
          exact List.take_of_length_le (by rw [List.length_drop, len_data]; exact Nat.le_refl _)
        have hvs : V.size ≤ 80000 := by rw [hV]; simp; omega
        have CH : Hid (∀ W, Calls Tryd.prog 43 #[.string V] W fun e w' => e = .returned (.tuple #[.int .u64 (hexV V.data.toList), .bool (hexOk V.data.toList)]) ∧ w' = W) := Lib.hid (fun W => rhex_walk V W (by omega))
        have HPO := Lib.hid hpo
        have HKD := Lib.hid hkd
        have HVD := Lib.hid hvd
        have HVE := Lib.hid hV
        clear hpo hpv hkd hvd hV
        go_wp2_with fail
        refine CP.out.mono ?_
        rintro e w' ⟨rfl, rfl⟩
        go_wp2_with fail
        rw [← HVE.out]
        refine (CH.out _).mono ?_
        rintro e w' ⟨rfl, rfl⟩
        have hvb := hexV_small (l := V.data.toList)
        rw [len_data] at hvb
        obtain ⟨oV, hoV⟩ : ∃ oV, hexOk V.data.toList = oV := ⟨_, rfl⟩
        obtain ⟨nV, hnV⟩ : ∃ nV, hexV V.data.toList = nV := ⟨_, rfl⟩
        rw [hnV] at hvb
        rw [hoV, hnV]
        have HoV := Lib.hid hoV
        have HnV := Lib.hid hnV
        have Hvb := Lib.hid hvb
        clear hoV hnV hvb CP CH
        by_cases hn : x.data.toList.take k = [116, 104]
        · have e1 : ((x.extract 0 k).toList == [116, 104]) = true := by rw [HKD.out, hn]; rfl
          have e2 : ((x.extract 0 k).toList == [114, 118]) = false := by rw [HKD.out, hn]; rfl
          have HN := Lib.hid hn
          clear hn
          rcases (show kT = true ∨ (kT = false ∧ oV = false) ∨ (kT = false ∧ oV = true ∧ V.size < 1) ∨ (kT = false ∧ oV = true ∧ ¬ V.size < 1 ∧ 14 < V.size) ∨ (kT = false ∧ oV = true ∧ ¬ V.size < 1 ∧ ¬ 14 < V.size) by
            by_cases h3 : V.size < 1 <;> by_cases h4 : 14 < V.size <;> cases kT <;> cases oV <;> simp_all) with rfl | ⟨rfl, rfl⟩ | ⟨rfl, rfl, h3⟩ | ⟨rfl, rfl, h3, h4⟩ | ⟨rfl, rfl, h3, h4⟩
          · have HB := Lib.hid (HI.out.bad HP.out (mk_th_bad HPO.out HN.out (.inl rfl)))
            go_wp2_with fail
            exact bodyPost_ret (v := .tuple #[.agg #[.bool true, .int .u64 (kt : Int), .bool kR, .int .u64 (kr : Int)], .bool false]) (by simp [results, Tryd.results62, go_sem, *]) rfl ⟨HOut.out _ ((((((HO.out.mono (fun k hk _ => by simp only [List.mem_singleton] at hk; simp [hk]) : Only [rb, mb] w2 _)).setCell (p := ⟨rb, 0, none⟩) (.inl (by simp)) _).setCell (p := ⟨rb, 1, none⟩) (.inl (by simp)) _).setCell (p := ⟨rb, 2, none⟩) (.inl (by simp)) _).setCell (p := ⟨rb, 3, none⟩) (.inl (by simp)) _), .inr ⟨by rw [HMl.out]; exact HB.out, ⟨true, kt, kR, kr⟩, rfl⟩⟩
          · have HB := Lib.hid (HI.out.bad HP.out (mk_th_bad HPO.out HN.out (.inr (.inl (by rw [← HVD.out]; exact HoV.out)))))
            go_wp2_with fail
            exact bodyPost_ret (v := .tuple #[.agg #[.bool false, .int .u64 (kt : Int), .bool kR, .int .u64 (kr : Int)], .bool false]) (by simp [results, Tryd.results62, go_sem, *]) rfl ⟨HOut.out _ ((((((HO.out.mono (fun k hk _ => by simp only [List.mem_singleton] at hk; simp [hk]) : Only [rb, mb] w2 _)).setCell (p := ⟨rb, 0, none⟩) (.inl (by simp)) _).setCell (p := ⟨rb, 1, none⟩) (.inl (by simp)) _).setCell (p := ⟨rb, 2, none⟩) (.inl (by simp)) _).setCell (p := ⟨rb, 3, none⟩) (.inl (by simp)) _), .inr ⟨by rw [HMl.out]; exact HB.out, ⟨false, kt, kR, kr⟩, rfl⟩⟩
          · have HB := Lib.hid (HI.out.bad HP.out (mk_th_bad HPO.out HN.out (.inr (.inr (.inl (by rw [← HVD.out, len_data]; exact h3))))))
            have q1 : decide ((V.size : Int) < 1) = true := decide_eq_true (by omega)
            clear h3
            go_wp2_with fail
            exact bodyPost_ret (v := .tuple #[.agg #[.bool false, .int .u64 (kt : Int), .bool kR, .int .u64 (kr : Int)], .bool false]) (by simp [results, Tryd.results62, go_sem, *]) rfl ⟨HOut.out _ ((((((HO.out.mono (fun k hk _ => by simp only [List.mem_singleton] at hk; simp [hk]) : Only [rb, mb] w2 _)).setCell (p := ⟨rb, 0, none⟩) (.inl (by simp)) _).setCell (p := ⟨rb, 1, none⟩) (.inl (by simp)) _).setCell (p := ⟨rb, 2, none⟩) (.inl (by simp)) _).setCell (p := ⟨rb, 3, none⟩) (.inl (by simp)) _), .inr ⟨by rw [HMl.out]; exact HB.out, ⟨false, kt, kR, kr⟩, rfl⟩⟩
          · have HB := Lib.hid (HI.out.bad HP.out (mk_th_bad HPO.out HN.out (.inr (.inr (.inr (by rw [← HVD.out, len_data]; exact h4))))))
            have q1 : decide ((V.size : Int) < 1) = false := decide_eq_false (by omega)
            have q2 : decide ((14 : Int) < V.size) = true := decide_eq_true (by omega)
            clear h3 h4
            go_wp2_with fail
            exact bodyPost_ret (v := .tuple #[.agg #[.bool false, .int .u64 (kt : Int), .bool kR, .int .u64 (kr : Int)], .bool false]) (by simp [results, Tryd.results62, go_sem, *]) rfl ⟨HOut.out _ ((((((HO.out.mono (fun k hk _ => by simp only [List.mem_singleton] at hk; simp [hk]) : Only [rb, mb] w2 _)).setCell (p := ⟨rb, 0, none⟩) (.inl (by simp)) _).setCell (p := ⟨rb, 1, none⟩) (.inl (by simp)) _).setCell (p := ⟨rb, 2, none⟩) (.inl (by simp)) _).setCell (p := ⟨rb, 3, none⟩) (.inl (by simp)) _), .inr ⟨by rw [HMl.out]; exact HB.out, ⟨false, kt, kR, kr⟩, rfl⟩⟩
          · have HNx := Lib.hid (HI.out.next HP.out (mk_th HPO.out HN.out rfl (by rw [← HVD.out]; exact HoV.out) (by rw [← HVD.out, len_data]; omega) (by rw [← HVD.out, len_data]; omega)))
            rw [← HVD.out, len_data, HnV.out] at HNx
            have q1 : decide ((V.size : Int) < 1) = false := decide_eq_false (by omega)
            have q2 : decide ((14 : Int) < V.size) = false := decide_eq_false (by omega)
            have hV14 : V.size ≤ 14 := by omega
            clear h3 h4
            go_wp2_with fail
            go_loop [9, 11] (fun nv jv => ∃ j : Nat, jv = .int .i64 j ∧ V.size ≤ j ∧ j ≤ 14 ∧ nv = .int .u64 ((nV * 16 ^ (j - V.size) : Nat) : Int)) (fun _ jv => 14 - (intOf jv).toNat)
            case atStart => exact ⟨V.size, rfl, Nat.le_refl _, hV14, by simp⟩
            case round =>
              obtain ⟨j, rfl, hj1, hj2, rfl⟩ := hrel
              by_cases hj : j < 14
              · have q3 : decide ((j : Int) < 14) = true := decide_eq_true (by omega)
                have hlt : nV * 16 ^ (j - V.size) < 16 ^ 13 := by
                  have h1 := Hvb.out (by omega)
                  have h2 : nV * 16 ^ (j - V.size) < 16 ^ V.size * 16 ^ (j - V.size) := Nat.mul_lt_mul_of_pos_right h1 (Nat.pow_pos (by omega))
                  rw [← Nat.pow_add, show V.size + (j - V.size) = j by omega] at h2
                  exact Nat.lt_of_lt_of_le h2 (Nat.pow_le_pow_right (by omega) (by omega))
                have hpw : nV * 16 ^ (j + 1 - V.size) = 16 * (nV * 16 ^ (j - V.size)) := by
                  rw [show j + 1 - V.size = (j - V.size) + 1 by omega, Nat.pow_succ, ← Nat.mul_assoc, Nat.mul_comm]
                have HPW := Lib.hid hpw
                generalize nV * 16 ^ (j - V.size) = M at *
                have q4 : IntKind.u64.wrap (16 * (M : Int)) = 16 * M := wraps_u64 _ (by omega) (by omega)
                clear hpw hlt
                go_wp2_with fail
                go_round
                case rel => exact ⟨j + 1, by go_num, by omega, by omega, by rw [HPW.out]; go_num⟩
                case measure => simp [intOf]; omega
              · have q3 : decide ((j : Int) < 14) = false := decide_eq_false (by omega)
                obtain rfl : j = 14 := by omega
                generalize nV * 16 ^ (14 - V.size) = M at *
                clear hj
                go_wp2_with fail
                refine ⟨⟨i + 1, _, by go_num, HNx.out, by omega, (HO.out.setCell (p := ⟨mb, 0, none⟩) (.inl (by simp)) _).setCell (p := ⟨mb, 1, none⟩) (.inl (by simp)) _, ?_⟩, by simp [intOf]; omega⟩
                exact setCell_blk (setCell_blk HMK.out)
        · have e1 : ((x.extract 0 k).toList == [116, 104]) = false := by rw [HKD.out]; simpa using hn
          by_cases hn2 : x.data.toList.take k = [114, 118]
          · have e2 : ((x.extract 0 k).toList == [114, 118]) = true := by rw [HKD.out, hn2]; rfl
            have HN := Lib.hid hn2
            clear hn hn2
            rcases (show kR = true ∨ (kR = false ∧ oV = false) ∨ (kR = false ∧ oV = true ∧ V.size ≠ 14) ∨ (kR = false ∧ oV = true ∧ V.size = 14) by
              by_cases h3 : V.size = 14 <;> cases kR <;> cases oV <;> simp_all) with rfl | ⟨rfl, rfl⟩ | ⟨rfl, rfl, h3⟩ | ⟨rfl, rfl, h3⟩
            · have HB := Lib.hid (HI.out.bad HP.out (mk_rv_bad HPO.out HN.out (.inl rfl)))
              go_wp2_with fail
              exact bodyPost_ret (v := .tuple #[.agg #[.bool kT, .int .u64 (kt : Int), .bool true, .int .u64 (kr : Int)], .bool false]) (by simp [results, Tryd.results62, go_sem, *]) rfl ⟨HOut.out _ ((((((HO.out.mono (fun k hk _ => by simp only [List.mem_singleton] at hk; simp [hk]) : Only [rb, mb] w2 _)).setCell (p := ⟨rb, 0, none⟩) (.inl (by simp)) _).setCell (p := ⟨rb, 1, none⟩) (.inl (by simp)) _).setCell (p := ⟨rb, 2, none⟩) (.inl (by simp)) _).setCell (p := ⟨rb, 3, none⟩) (.inl (by simp)) _), .inr ⟨by rw [HMl.out]; exact HB.out, ⟨kT, kt, true, kr⟩, rfl⟩⟩
            · have HB := Lib.hid (HI.out.bad HP.out (mk_rv_bad HPO.out HN.out (.inr (.inl (by rw [← HVD.out]; exact HoV.out)))))
              go_wp2_with fail
              exact bodyPost_ret (v := .tuple #[.agg #[.bool kT, .int .u64 (kt : Int), .bool false, .int .u64 (kr : Int)], .bool false]) (by simp [results, Tryd.results62, go_sem, *]) rfl ⟨HOut.out _ ((((((HO.out.mono (fun k hk _ => by simp only [List.mem_singleton] at hk; simp [hk]) : Only [rb, mb] w2 _)).setCell (p := ⟨rb, 0, none⟩) (.inl (by simp)) _).setCell (p := ⟨rb, 1, none⟩) (.inl (by simp)) _).setCell (p := ⟨rb, 2, none⟩) (.inl (by simp)) _).setCell (p := ⟨rb, 3, none⟩) (.inl (by simp)) _), .inr ⟨by rw [HMl.out]; exact HB.out, ⟨kT, kt, false, kr⟩, rfl⟩⟩
            · have HB := Lib.hid (HI.out.bad HP.out (mk_rv_bad HPO.out HN.out (.inr (.inr (by rw [← HVD.out, len_data]; exact h3)))))
              have q1 : ((V.size : Int) != 14) = true := by rw [bne_iff_ne]; omega
              have q2 : ((V.size : Int) == 14) = false := by rw [beq_eq_false_iff_ne]; omega
              clear h3
              go_wp2_with fail
              exact bodyPost_ret (v := .tuple #[.agg #[.bool kT, .int .u64 (kt : Int), .bool false, .int .u64 (kr : Int)], .bool false]) (by simp [results, Tryd.results62, go_sem, *]) rfl ⟨HOut.out _ ((((((HO.out.mono (fun k hk _ => by simp only [List.mem_singleton] at hk; simp [hk]) : Only [rb, mb] w2 _)).setCell (p := ⟨rb, 0, none⟩) (.inl (by simp)) _).setCell (p := ⟨rb, 1, none⟩) (.inl (by simp)) _).setCell (p := ⟨rb, 2, none⟩) (.inl (by simp)) _).setCell (p := ⟨rb, 3, none⟩) (.inl (by simp)) _), .inr ⟨by rw [HMl.out]; exact HB.out, ⟨kT, kt, false, kr⟩, rfl⟩⟩
            · have HNx := Lib.hid (HI.out.next HP.out (mk_rv HPO.out HN.out rfl (by rw [← HVD.out]; exact HoV.out) (by rw [← HVD.out, len_data]; exact h3)))
              rw [← HVD.out, HnV.out] at HNx
              have q1 : ((V.size : Int) != 14) = false := by rw [bne_eq_false_iff_eq]; omega
              have q2 : ((V.size : Int) == 14) = true := by rw [beq_iff_eq]; omega
              clear h3
              go_wp2_with fail
              refine ⟨⟨i + 1, _, by go_num, HNx.out, by omega, (HO.out.setCell (p := ⟨mb, 2, none⟩) (.inl (by simp)) _).setCell (p := ⟨mb, 3, none⟩) (.inl (by simp)) _, ?_⟩, by simp [intOf]; omega⟩
              exact setCell_blk (setCell_blk HMK.out)
          · have e2 : ((x.extract 0 k).toList == [114, 118]) = false := by rw [HKD.out]; simpa using hn2
            have HNx := Lib.hid (HI.out.next HP.out (mk_else HPO.out hn hn2))
            clear hn hn2
            go_wp2_with fail
            exact ⟨⟨i + 1, _, by go_num, HNx.out, by omega, HO.out, HMK.out⟩, by simp [intOf]; omega⟩
    · have g1 : decide (i < L.length) = false := decide_eq_false hi
      have HD := Lib.hid (HI.out.done (by rw [← HLl.out]; omega))
      clear hi
      go_wp2_with fail
      exact bodyPost_ret (v := .tuple #[.agg #[.bool kT, .int .u64 (kt : Int), .bool kR, .int .u64 (kr : Int)], .bool true]) (by simp [results, Tryd.results62, go_sem, *]) rfl ⟨HOut.out _ ((((((HO.out.mono (fun k hk _ => by simp only [List.mem_singleton] at hk; simp [hk]) : Only [rb, mb] w2 _)).setCell (p := ⟨rb, 0, none⟩) (.inl (by simp)) _).setCell (p := ⟨rb, 1, none⟩) (.inl (by simp)) _).setCell (p := ⟨rb, 2, none⟩) (.inl (by simp)) _).setCell (p := ⟨rb, 3, none⟩) (.inl (by simp)) _), .inl ⟨⟨kT, kt, kR, kr⟩, by rw [HMl.out]; exact HD.out, rfl⟩⟩

end Go.Proofs.YtfnbkcdcdeojfaaDoor
