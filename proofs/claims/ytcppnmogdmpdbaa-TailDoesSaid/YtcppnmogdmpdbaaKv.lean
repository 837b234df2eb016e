/- Decide of package tail, walked: what is known, as a list, the oldest first. -/
import Derived.Test.YtcppnmogdmpdbaaKu
set_option linter.unusedVariables false
set_option linter.unusedSimpArgs false
namespace Go.Proofs.Ytcppnmogdmpdbaa
open Go.RowKit Go.Mk Go.Hp
attribute [-go_sem] Builtin.append_

abbrev Dec := Tr × Bool
/-- A decision is made known. -/
def lessK (t : Tr) (K : List Dec) : List Dec := K.filter fun p => decide (p.1 ≠ t)
def moreK (t : Tr) (kp : Bool) (K : List Dec) : List Dec := lessK t K ++ [(t, kp)]
def decK (t : Tr) (kp : Bool) (cache : Int) (K : List Dec) : List Dec := if cache < ((moreK t kp K).length : Int) then (moreK t kp K).tail else moreK t kp K

theorem lessK_none {t : Tr} : ∀ {K : List Dec}, t ∉ K.map (·.1) → lessK t K = K
  | [], _ => rfl
  | p :: K, h => by
    simp only [List.map_cons, List.mem_cons, not_or] at h
    unfold lessK at *
    rw [List.filter_cons, if_pos (by simpa using Ne.symm h.1)]
    have := lessK_none (t := t) (K := K) h.2
    unfold lessK at this
    rw [this]
theorem lessK_at {t : Tr} {kp : Bool} : ∀ {K : List Dec} {i : Nat}, (K.map (·.1)).Nodup → K[i]? = some (t, kp) → lessK t K = K.eraseIdx i
  | p :: K, 0, hn, h => by
    cases h
    simp only [List.map_cons, List.nodup_cons] at hn
    have := lessK_none (t := t) (K := K) hn.1
    unfold lessK at *
    rw [List.filter_cons, if_neg (by simp), this]
    rfl
  | p :: K, i + 1, hn, h => by
    simp only [List.map_cons, List.nodup_cons] at hn
    rw [List.getElem?_cons_succ] at h
    have hne : p.1 ≠ t := fun he => hn.1 (by rw [he]; exact List.mem_map.2 ⟨_, List.mem_of_getElem? h, rfl⟩)
    have := lessK_at hn.2 h
    unfold lessK at *
    rw [List.filter_cons, if_pos (by simpa using hne), this]
    rfl
theorem less_keys (t : Tr) (K : List Dec) : (lessK t K).map (·.1) = (K.map (·.1)).filter (fun k => decide (k ≠ t)) := by
  unfold lessK
  rw [List.filter_map]
  rfl
theorem less_nodup {t : Tr} {K : List Dec} (h : (K.map (·.1)).Nodup) : ((lessK t K).map (·.1)).Nodup := h.sublist (List.Sublist.map _ List.filter_sublist)
theorem less_mem {t : Tr} {K : List Dec} : t ∉ (lessK t K).map (·.1) := by
  rw [less_keys]
  simp
theorem more_nodup {t : Tr} {kp : Bool} {K : List Dec} (h : (K.map (·.1)).Nodup) : ((moreK t kp K).map (·.1)).Nodup := by
  unfold moreK
  rw [List.map_append, List.nodup_append]
  refine ⟨less_nodup h, by simp, fun x hx y hy => ?_⟩
  simp only [List.map_cons, List.map_nil, List.mem_singleton] at hy
  rw [hy]
  rintro rfl
  exact less_mem hx
theorem asc_less {t k : Tr} : ∀ {K : List Dec}, asc (lessK t K) k = if t = k then none else asc K k
  | [] => by simp [lessK, asc]
  | p :: K => by
    have ih := asc_less (t := t) (k := k) (K := K)
    unfold lessK at *
    rw [List.filter_cons]
    by_cases hp : p.1 = t
    · rw [if_neg (by simpa using hp), ih, asc]
      by_cases hk : t = k
      · rw [if_pos hk, if_pos hk]
      · rw [if_neg hk, if_neg hk, if_neg (fun h => hk (by rw [← hp, h]))]
    · rw [if_pos (by simpa using hp), asc, asc, ih]
      by_cases hk : t = k
      · rw [if_pos hk, if_pos hk, if_neg (fun h => hp (by rw [h, hk]))]
      · rw [if_neg hk, if_neg hk]
theorem asc_more {t k : Tr} {kp : Bool} {K : List Dec} : asc (moreK t kp K) k = if t = k then some kp else asc K k := by
  unfold moreK
  rw [asc_new less_mem, asc_less]
  by_cases hk : t = k
  · rw [if_pos hk, if_pos hk]
  · rw [if_neg hk, if_neg hk, if_neg hk]
theorem less_len (t : Tr) (K : List Dec) : (lessK t K).length ≤ K.length := by unfold lessK; exact List.length_filter_le ..

/-- The decisions are each of another trace, and no more than may be. -/
structure DecOk (cache : Int) (K : List Dec) : Prop where
  nd : (K.map (·.1)).Nodup
  le : (K.length : Int) ≤ cache

theorem DecOk.dec {cache : Int} {K : List Dec} (h : DecOk cache K) (t : Tr) (kp : Bool) : DecOk cache (decK t kp cache K) := by
  have h1 := more_nodup (t := t) (kp := kp) h.nd
  have h2 := less_len t K
  have h3 := h.le
  unfold decK
  split
  · refine ⟨h1.sublist (List.Sublist.map _ (List.tail_sublist _)), ?_⟩
    rw [List.length_tail]
    unfold moreK
    rw [List.length_append, List.length_singleton]
    omega
  · exact ⟨h1, by omega⟩

/-- Behind the first if: the old decision of the trace is out of the row. -/
structure MidK (wx w : World) (b : TB) (Fh : List Nat) (ov : Value) (most wait cache now came : Int) (K K1 : List Dec) (Q : List Wr) (b8 : Nat) (hi lo : Int) (mst : List (Ent Tr)) (msr : List (Ent Int)) (msk : List (Ent Tr)) (pa : Option Addr) (pc : Nat) : Prop where
  env : Env wx b (tArr b (.slice pa K1.length pc) (spansOf Q) now came most wait cache) Fh most (Q.map tmOf) mst msr msk (.slice pa K1.length pc) (K1.map (·.1)) Q
  ap : Apart b Fh (blockOf (.slice pa K1.length pc)) Q
  only : Only (foot b Fh (blockOf ov) Q) w wx
  bl : ∀ x ∈ blockOf (.slice pa K1.length pc), x ∈ blockOf ov
  box : wx.heap[b8]? = some (.cells #[.int .u64 hi, .int .u64 lo] 116 (0, 0))

set_option maxRecDepth 100000 in
set_option maxHeartbeats 8000000 in
theorem decide_any {w : World} {b : TB} {Fh : List Nat} {ov : Value} {most wait cache now came : Int} {K : List Dec} {Q : List Wr} (h : TailIs w b Fh ov most wait cache now came (asc K) (K.map (·.1)) Q) (hK : DecOk cache K) (hi lo : Int) (keep : Bool) (hc5 : cache ≤ 5000) :
    Calls Try.prog 37 #[.pointer (some ⟨b.tp, 0, none⟩), .int .u64 hi, .int .u64 lo, .bool keep] w fun e w' => e = .returned (.tuple #[]) ∧
      ∃ ov', TailIs w' b Fh ov' most wait cache now came (asc (decK (hi, lo) keep cache K)) ((decK (hi, lo) keep cache K).map (·.1)) Q ∧ Only (foot b Fh (blockOf ov) Q) w w' ∧ ∀ x ∈ foot b Fh (blockOf ov') Q, x ∈ foot b Fh (blockOf ov) Q ∨ w.heap.size ≤ x := by
  obtain ⟨mst, msr, msk, hE, hM⟩ := h.env
  obtain ⟨pa, pc, hov⟩ := hE.ord.form
  rw [List.length_map, List.length_map] at hov
  subst hov
  have hle := hK.le
  have HKo := Lib.hid hK
  have HM := Lib.hid hM
  have HA := Lib.hid h.ap
  have HN := Lib.hid h.num
  have Hl := Lib.hid hE.lt
  have o1 : Only [] w (w.alloc (.cells #[.int .u64 hi, .int .u64 lo] 116)) := (Only.refl [] _).alloc _
  have B8 := heap_alloc_new w (.cells #[.int .u64 hi, .int .u64 lo] 116)
  have HE1 := Lib.hid (hE.only o1 (by simp))
  have O1 : Hid (Only (foot b Fh (blockOf (.slice pa K.length pc)) Q) w (w.alloc (.cells #[.int .u64 hi, .int .u64 lo] 116))) := o1.mono (by simp)
  have hb8n : w.heap.size ∉ foot b Fh (blockOf (.slice pa K.length pc)) Q := fun hm => Nat.lt_irrefl _ (hE.lt _ hm)
  have Hb8n := Lib.hid hb8n
  clear h hE hM o1 hb8n hK
  go_enter Try.func37, Try.ntmps37
  go_wp2_with fail
  generalize hw1 : w.alloc (.cells #[.int .u64 hi, .int .u64 lo] 116) = w1 at *
  clear hw1
  generalize hb8 : w.heap.size = b8 at *
  have Hb8 := Lib.hid hb8
  clear hb8
  have k0 : w1.cell? ⟨b8, 0, none⟩ = some (.int .u64 hi) := by rw [cell_of_blk B8]; rfl
  have k1 : w1.cell? ⟨b8, 1, none⟩ = some (.int .u64 lo) := by rw [cell_of_blk B8]; rfl
  have r3 : w1.cell? ⟨b.tp, 3, none⟩ = some (.map (some b.mq)) := by rw [cell_of_blk HE1.out.blk]; rfl
  have htp1 : b.tp < w1.heap.size := lt_of_blk HE1.out.blk
  obtain ⟨kv, ki, hcase, hlk⟩ : ∃ kv ki : Bool, ((ki = true ∧ ∃ i, K[i]? = some ((hi, lo), kv)) ∨ (ki = false ∧ ((hi, lo) : Tr) ∉ K.map (·.1))) ∧ ∀ m, (Instr.lookup 110 (.map (some b.mq)) (.agg #[.int .u64 hi, .int .u64 lo]) true).run Try.prog (w1.drewN m) = .ok (.tuple #[.bool kv, .bool ki]) (w1.drewN m) := by
    obtain ⟨c, hmk⟩ := HE1.out.mq
    have hg := HM.out.k (hi, lo)
    have hz : ∀ m, (zeroValue 4).run Try.prog (w1.drewN m) = .ok (.bool false) (w1.drewN m) := fun m => Try.zeroValue4 _
    have h2 := fun m => run_lookup_ok (P := Try.prog) Try.underlying110 keyOk_trace (hz m) (hmk.only ((Only.refl [] _).drewN m) (by simp)) (hi, lo)
    cases hq : asc K (hi, lo) with
    | none =>
      rw [hq] at hg
      refine ⟨false, false, .inr ⟨rfl, asc_none.1 hq⟩, fun m => ?_⟩
      have h3 := h2 m
      rw [hg] at h3
      exact h3
    | some kv =>
      rw [hq] at hg
      refine ⟨kv, true, .inl ⟨rfl, asc_some hq⟩, fun m => ?_⟩
      have h3 := h2 m
      rw [hg] at h3
      exact h3
  have Hcase := Lib.hid hcase
  clear hcase
  go_quiet (fail)
  have o2 : Only [] w1 (w1.drewN nq) := (Only.refl [] _).drewN _
  have HB8 := Lib.hid (o2.blk B8 (by simp))
  have HE2 := Lib.hid (HE1.out.only o2 (by simp))
  have O2 := Lib.hid (O1.out.trans (o2.mono (by simp)))
  clear HE1 O1 o2 hlk k0 k1 r3 htp1 B8
  generalize w1.drewN nq = w2 at *
  go_upto_if 24 with fail
  go_cut [11] (fun s11 wx => ∃ (pa1 : Option Addr) (pc1 : Nat), MidK wx w b Fh (.slice pa K.length pc) most wait cache now came K (lessK (hi, lo) K) Q b8 hi lo mst msr msk pa1 pc1)
  case first =>
    rcases Hcase.out with ⟨rfl, i, hki⟩ | ⟨rfl, hnew⟩
    · have k0 : w2.cell? ⟨b8, 0, none⟩ = some (.int .u64 hi) := by rw [cell_of_blk HB8.out]; rfl
      have k1 : w2.cell? ⟨b8, 1, none⟩ = some (.int .u64 lo) := by rw [cell_of_blk HB8.out]; rfl
      have r4 : w2.cell? ⟨b.tp, 4, none⟩ = some (.slice pa K.length pc) := by rw [cell_of_blk HE2.out.blk]; rfl
      have htp2 : b.tp < w2.heap.size := lt_of_blk HE2.out.blk
      have hb82 : b8 < w2.heap.size := lt_of_blk HB8.out
      have hil := (List.getElem?_eq_some_iff.1 hki).1
      have hrow : ∃ g off, pa = some ⟨g, off, none⟩ ∧ RowMem w2 116 2 ((K.map (·.1)).map encTrL) g off pc := by
        have h5 := HE2.out.ord
        generalize hX : (K.map (·.1)).map encTrL = Y at h5
        generalize hV : Value.slice pa K.length pc = V at h5
        cases h5 with
        | nil => obtain ⟨_, h6, _⟩ := Value.slice.inj hV; omega
        | @row _ g2 off2 cap3 hr =>
          obtain ⟨h6, _, h7⟩ := Value.slice.inj hV
          subst h7
          exact ⟨g2, off2, h6, hr⟩
      obtain ⟨g, off, rfl, hrow⟩ := hrow
      have hkey : (K.map (·.1))[i]? = some (hi, lo) := by rw [List.getElem?_map, hki]; rfl
      have hni : ((hi, lo) : Tr) ∉ (K.map (·.1)).take i := by
        intro hm
        obtain ⟨q, hq⟩ := List.mem_iff_getElem?.1 hm
        rw [List.getElem?_take] at hq
        split at hq
        · rename_i hqi
          obtain ⟨l1, e1⟩ := List.getElem?_eq_some_iff.1 hkey
          obtain ⟨l2, e2⟩ := List.getElem?_eq_some_iff.1 hq
          exact List.pairwise_iff_getElem.1 (List.nodup_iff_pairwise_ne.1 HKo.out.nd) q i l2 l1 hqi (by rw [e1, e2])
        · cases hq
      have CI := index_walk (w := w2.drew) (hrow.only (Only.drew (Only.refl [] w2)) (by simp)) hkey hni (by rw [List.length_map]; omega)
      rw [List.length_map] at CI
      have HCI := Lib.hid CI
      have Hrow := Lib.hid hrow
      have Hki := Lib.hid hki
      have Hg : Hid (b.tp ≠ g) := Lib.hid (fun he => (HA.out.fixF b.tp (by simp [TB.fix])).2 (by simp [blockOf, he]))
      have Hb8g : Hid (b8 ≠ g) := Lib.hid (fun he => Hb8n.out (mem_foot.2 (.inr (.inr (.inl (by simp [blockOf, he]))))))
      clear hrow hkey hni CI hki
      go_wp2_with fail
      go_region_with (go_at_call 53; go_must (refine HCI.out.mono ?_; rintro e w3 ⟨rfl, o3⟩; have O3 := Lib.hid o3; clear o3))
      all_goals
        have o23 : Only [] w2 w3 := (Only.drew (Only.refl [] w2)).trans O3.out
        have hrow3 := Hrow.out.only o23 (by simp)
        have CD := delete_walk (w := w3) (i := i) hrow3 (by rw [List.length_map]; exact hil) (by rw [List.length_map]; omega)
        rw [List.length_map] at CD
        have HCD := Lib.hid CD
        have r4' := o23.cell r4 (by simp)
        have htp3 := o23.lt htp2
        have HE3 := Lib.hid (HE2.out.only o23 (by simp))
        have HB3 := Lib.hid (o23.blk HB8.out (by simp))
        have O23 := Lib.hid (O2.out.trans (o23.mono (by simp)))
        clear hrow3 CD o23 r4 htp2 hb82 k0 k1
        go_wp2_with fail
        refine HCD.out.mono ?_
        rintro e w4 ⟨rfl, hrm, o4⟩
        have ntp : b.tp ∉ [g] := by rw [List.mem_singleton]; exact Hg.out
        have n4 := o4.cell r4' ntp
        have f4 : w4.frozen? ⟨b.tp, 4, none⟩ = false := (World.frozen?_of_block (a := ⟨b.tp, 4, none⟩) (o4.block b.tp htp3 ntp)).trans (frozen_of_blk HE3.out.blk)
        have htp4 : b.tp < w4.heap.size := o4.lt htp3
        have hK1 : lessK (hi, lo) K = K.eraseIdx i := lessK_at HKo.out.nd Hki.out
        have hK1l : (lessK (hi, lo) K).length = K.length - 1 := by rw [hK1, List.length_eraseIdx, if_pos hil]
        have hsl : SliceIs w4 116 2 (((lessK (hi, lo) K).map (·.1)).map encTrL) (.slice (some ⟨g, off, none⟩) (K.length - 1) pc) := by
          rw [erase_map, ← hK1] at hrm
          have h3 := SliceIs.row hrm
          rw [List.length_map, List.length_map, hK1l] at h3
          exact h3
        obtain ⟨hE4, hA4⟩ := HE3.out.ordTo HA.out hsl o4 (fun x hx => .inl hx)
        have hE5 := hE4.setTp hA4 4 (.slice (some ⟨g, off, none⟩) (K.length - 1) pc)
        have hE5' : Env (w4.setCell ⟨b.tp, 4, none⟩ (.slice (some ⟨g, off, none⟩) (K.length - 1) pc)) b (tArr b (.slice (some ⟨g, off, none⟩) (K.length - 1) pc) (spansOf Q) now came most wait cache) Fh most (Q.map tmOf) mst msr msk (.slice (some ⟨g, off, none⟩) (K.length - 1) pc) ((lessK (hi, lo) K).map (·.1)) Q := hE5
        have hb8g : b8 ∉ [g] := by rw [List.mem_singleton]; exact Hb8g.out
        have hb8t : b8 ∉ [b.tp] := by rw [List.mem_singleton]; exact fun he => Hb8n.out (by rw [he]; exact foot_tp)
        have o5 := only_setTp w4 b.tp 4 (.slice (some ⟨g, off, none⟩) (K.length - 1) pc)
        have hfin : MidK (w4.setCell ⟨b.tp, 4, none⟩ (.slice (some ⟨g, off, none⟩) (K.length - 1) pc)) w b Fh (.slice (some ⟨g, off, none⟩) K.length pc) most wait cache now came K (lessK (hi, lo) K) Q b8 hi lo mst msr msk (some ⟨g, off, none⟩) pc :=
          ⟨by rw [hK1l]; exact hE5', by rw [hK1l]; exact hA4,
            (O23.out.trans (o4.mono (fun x hx _ => mem_foot.2 (.inr (.inr (.inl hx)))))).trans (o5.mono (fun x hx _ => by rw [List.mem_singleton] at hx; rw [hx]; exact foot_tp)),
            fun x hx => hx, o5.blk (o4.blk HB3.out hb8g) hb8t⟩
        have Hfin := Lib.hid hfin
        clear hrm o4 hK1 hK1l hsl hE4 hA4 hE5 hE5' hb8g hb8t o5 hfin ntp r4' HCD HE3 HB3 O23 htp3
        go_wp2_with fail
        go_meet
        exact ⟨_, _, Hfin.out⟩
    · have hK1 := lessK_none hnew
      go_wp2_with fail
      go_meet
      rw [hK1]
      exact ⟨pa, pc, HE2.out, HA.out, O2.out, fun x hx => hx, HB8.out⟩
  case rest =>
    obtain ⟨pa1, pc1, hMid⟩ := hcut
    have hK1 : DecOk cache (lessK (hi, lo) K) := ⟨less_nodup HKo.out.nd, by have := less_len (hi, lo) K; omega⟩
    have hnd := more_nodup (t := (hi, lo)) (kp := keep) HKo.out.nd
    have Hasc : Hid (∀ k, asc (moreK (hi, lo) keep K) k = if ((hi, lo) : Tr) = k then some keep else asc K k) := Lib.hid (fun k => asc_more)
    have Hdec : Hid (decK (hi, lo) keep cache K = if cache < ((moreK (hi, lo) keep K).length : Int) then (moreK (hi, lo) keep K).tail else moreK (hi, lo) keep K) := Lib.hid rfl
    have hmore : moreK (hi, lo) keep K = lessK (hi, lo) K ++ [((hi, lo), keep)] := rfl
    have Hmore := Lib.hid hmore
    have Hnd := Lib.hid hnd
    have Hsub : Hid (∀ x ∈ foot b Fh (blockOf (.slice pa1 (lessK (hi, lo) K).length pc1)) Q, x ∈ foot b Fh (blockOf (.slice pa K.length pc)) Q) := Lib.hid (fun x hx => by
      rcases mem_foot.1 hx with h | h | h | h
      · exact mem_foot.2 (.inl h)
      · exact mem_foot.2 (.inr (.inl h))
      · exact mem_foot.2 (.inr (.inr (.inl (hMid.bl x h))))
      · exact mem_foot.2 (.inr (.inr (.inr h))))
    have HA1 := Lib.hid hMid.ap
    have HE2 := Lib.hid hMid.env
    have O2 := Lib.hid hMid.only
    have B8 := hMid.box
    have hK1l := hK1.le
    clear hMid hmore hK1 hnd Hcase HKo HA
    generalize moreK (hi, lo) keep K = KM at *
    generalize lessK (hi, lo) K = K1 at *
    go_wp2_with fail
    have k0 : wc.cell? ⟨b8, 0, none⟩ = some (.int .u64 hi) := by rw [cell_of_blk B8]; rfl
    have k1 : wc.cell? ⟨b8, 1, none⟩ = some (.int .u64 lo) := by rw [cell_of_blk B8]; rfl
    have r3 : wc.cell? ⟨b.tp, 3, none⟩ = some (.map (some b.mq)) := by rw [cell_of_blk HE2.out.blk]; rfl
    have htp2 : b.tp < wc.heap.size := lt_of_blk HE2.out.blk
    have hb82 : b8 < wc.heap.size := lt_of_blk B8
    have fmq : b.mq ∈ foot b Fh (blockOf (.slice pa K.length pc)) Q := mem_foot.2 (.inl (by simp [TB.fix]))
    have hmql : b.mq < wc.heap.size := HE2.out.lt _ (mem_foot.2 (.inl (by simp [TB.fix])))
    obtain ⟨c2, hmk⟩ := HE2.out.mq
    obtain ⟨msk', c2', hup, q1, q2, q3, q4⟩ := run_mapUpdate_mem (P := Try.prog) Try.underlying110 keyOk_trace (hmk.only (Only.drew (Only.refl [] wc)) (by simp)) (hi, lo) (.bool keep)
    have hup' : (Instr.mapUpdate 110 (.map (some b.mq)) (.agg #[.int .u64 hi, .int .u64 lo]) (.bool keep)).run Try.prog wc.drew = .ok () (ChangeMaps.setBlock wc.drew b.mq (.map (msk'.map (Ent.mk' encTr)).toArray c2')) := hup
    have HQ := Lib.hid (And.intro q1 (And.intro q2 (And.intro q3 q4)))
    clear q1 q2 q3 q4 hmk hup
    go_region
    have hE3 := (HE2.out.only (Only.drew (Only.refl [] wc)) (by simp)).setMk HA1.out (o := .map (msk'.map (Ent.mk' encTr)).toArray c2') (MapMem.put hmql HQ.out.1 HQ.out.2.1 HQ.out.2.2.1)
    have o3 : Only [b.mq] wc (ChangeMaps.setBlock wc.drew b.mq (.map (msk'.map (Ent.mk' encTr)).toArray c2')) := ((Only.refl [b.mq] wc).drew).trans (only_setBl wc.drew b.mq _)
    have HE3 := Lib.hid hE3
    have O3 := Lib.hid (O2.out.trans (o3.mono (fun x hx _ => by rw [List.mem_singleton] at hx; rw [hx]; exact fmq)))
    have H3 := Lib.hid HQ.out.2.2.2
    have B8 := o3.blk B8 (by rw [List.mem_singleton]; rintro rfl; exact Hb8n.out fmq)
    clear hE3 o3 HE2 O2 HQ k0 k1 r3 htp2 hb82 hup' hmql
    generalize ChangeMaps.setBlock wc.drew b.mq (.map (msk'.map (Ent.mk' encTr)).toArray c2') = w3 at *
    go_wp2_with fail
    have k0 : w3.cell? ⟨b8, 0, none⟩ = some (.int .u64 hi) := by rw [cell_of_blk B8]; rfl
    have k1 : w3.cell? ⟨b8, 1, none⟩ = some (.int .u64 lo) := by rw [cell_of_blk B8]; rfl
    have r4 : w3.cell? ⟨b.tp, 4, none⟩ = some (.slice pa1 K1.length pc1) := by rw [cell_of_blk HE3.out.blk]; rfl
    have htp3 : b.tp < w3.heap.size := lt_of_blk HE3.out.blk
    have hb83 : b8 < w3.heap.size := lt_of_blk B8
    have oW : Only [] w3 (w3.alloc (.cells #[.int .u64 hi, .int .u64 lo] 116)).drew := ((Only.refl [] _).alloc _).drew
    have hBn := heap_alloc_new w3 (.cells #[.int .u64 hi, .int .u64 lo] 116)
    obtain ⟨i0, hi0, hz0, hz1, hz2⟩ := info_trace
    obtain ⟨g, off, cap', w4, hap, hrm, o4, hg⟩ := run_append_is (P := Try.prog) (t := 111) (ty := 111) (a := ⟨w3.heap.size, 0, none⟩) (m := 1) (c := 1) (news := [encTrL (hi, lo)]) Try.underlying111 hi0 hz0 hz1 hz2 rfl
      (HE3.out.ord.only oW (by simp)) rfl (by simp [encTrL]) (by
        intro j v hj
        have hadd : (⟨w3.heap.size, 0, none⟩ : Addr).add j = ⟨w3.heap.size, j, none⟩ := by unfold Addr.add; split <;> simp_all
        rw [hadd]
        refine (cell_of_blk (w := w3.alloc _) hBn).trans ?_
        rw [show (#[Value.int .u64 hi, .int .u64 lo] : Array Value) = [Value.int .u64 hi, .int .u64 lo].toArray from rfl, List.getElem?_toArray]
        simpa [encTrL] using hj) (by simp [encTrL, Value.oneCell']) (by omega) (by simp only [List.length_map, maxLen]; omega) (by rw [List.length_map, List.length_map]; omega)
    simp only [List.length_map] at hap
    have ntp : b.tp ∉ blockOf (.slice pa1 K1.length pc1) := (HA1.out.fixF b.tp (by simp [TB.fix])).2
    have n4 := o4.cell (oW.cell r4 (by simp)) ntp
    have f4 : w4.frozen? ⟨b.tp, 4, none⟩ = false := (World.frozen?_of_block (a := ⟨b.tp, 4, none⟩) (o4.block b.tp (oW.lt htp3) ntp)).trans (frozen_of_blk (oW.blk HE3.out.blk (by simp)))
    have htp4 : b.tp < w4.heap.size := lt_of_cell n4
    have HAP := Lib.hid (And.intro hrm (And.intro o4 hg))
    have HW := Lib.hid oW
    clear hrm o4 hg oW hBn hi0 hz0 hz1 hz2 ntp
    go_region
    obtain ⟨hrm, o4, hg⟩ := HAP.out
    have hKMl : KM.length = K1.length + 1 := by rw [Hmore.out, List.length_append, List.length_singleton]
    have hrm2 : RowMem w4 116 2 ((KM.map (·.1)).map encTrL) g off cap' := by
      rw [Hmore.out, List.map_append, List.map_append]
      exact hrm
    have hsl : SliceIs w4 116 2 ((KM.map (·.1)).map encTrL) (.slice (some ⟨g, off, none⟩) (K1.length + 1) cap') := by
      have h3 := SliceIs.row hrm2
      rw [List.length_map, List.length_map, hKMl] at h3
      exact h3
    obtain ⟨hE4, hA4⟩ := (HE3.out.only HW.out (by simp)).ordTo HA1.out hsl o4 (fun x hx => by simp only [blockOf, List.mem_singleton] at hx; rw [hx]; exact hg)
    have hE5 := hE4.setTp hA4 4 (.slice (some ⟨g, off, none⟩) (K1.length + 1) cap')
    have hE5' : Env (w4.setCell ⟨b.tp, 4, none⟩ (.slice (some ⟨g, off, none⟩) (K1.length + 1) cap')) b (tArr b (.slice (some ⟨g, off, none⟩) (K1.length + 1) cap') (spansOf Q) now came most wait cache) Fh most (Q.map tmOf) mst msr msk' (.slice (some ⟨g, off, none⟩) (K1.length + 1) cap') (KM.map (·.1)) Q := hE5
    have O5 : Hid (Only (foot b Fh (blockOf (.slice pa K.length pc)) Q) w (w4.setCell ⟨b.tp, 4, none⟩ (.slice (some ⟨g, off, none⟩) (K1.length + 1) cap'))) :=
      ((O3.out.trans (HW.out.mono (by simp))).trans (o4.mono (fun x hx _ => Hsub.out x (mem_foot.2 (.inr (.inr (.inl hx))))))).trans ((only_setTp w4 b.tp 4 _).mono (fun x hx _ => by rw [List.mem_singleton] at hx; rw [hx]; exact foot_tp))
    have Hg : Hid (g ∈ foot b Fh (blockOf (.slice pa K.length pc)) Q ∨ w.heap.size ≤ g) := hg.imp (fun h => Hsub.out g (mem_foot.2 (.inr (.inr (.inl h))))) (fun h => Nat.le_trans (Nat.le_trans O3.out.size HW.out.size) h)
    have Hrm5 : Hid (RowMem (w4.setCell ⟨b.tp, 4, none⟩ (.slice (some ⟨g, off, none⟩) (K1.length + 1) cap')) 116 2 ((KM.map (·.1)).map encTrL) g off cap') :=
      Lib.hid (hrm2.only (only_setTp w4 b.tp 4 _) (by rw [List.mem_singleton]; rintro rfl; exact (hA4.fixF b.tp (by simp [TB.fix])).2 (by simp [blockOf])))
    have HE5 := Lib.hid hE5'
    have HA5 := Lib.hid hA4
    have hfit := hrm2.fits
    rw [List.length_map, List.length_map, hKMl] at hfit
    have hctop := hrm2.top
    simp only [maxLen] at hctop
    clear hrm o4 hg hsl hE4 hA4 hE5 hE5' HAP HW HE3 O3 k0 k1 r4 htp3 hb83 n4 f4 htp4 hap B8 hrm2
    generalize w4.setCell ⟨b.tp, 4, none⟩ (.slice (some ⟨g, off, none⟩) (K1.length + 1) cap') = w5 at *
    go_wp2_with fail
    have r4 : w5.cell? ⟨b.tp, 4, none⟩ = some (.slice (some ⟨g, off, none⟩) (K1.length + 1) cap') := by rw [cell_of_blk HE5.out.blk]; rfl
    have r10 : w5.cell? ⟨b.tp, 10, none⟩ = some (.int .i64 cache) := by rw [cell_of_blk HE5.out.blk]; rfl
    have htp5 : b.tp < w5.heap.size := lt_of_blk HE5.out.blk
    by_cases hfull : cache < (K1.length : Int) + 1
    · have g1 : decide (cache < (K1.length : Int) + 1) = true := decide_eq_true hfull
      go_quiet (fail)
      have o6 : Only [] w5 (w5.drewN nq) := (Only.refl [] _).drewN _
      have HE6 := Lib.hid (HE5.out.only o6 (by simp))
      have Hrm6 := Lib.hid (Hrm5.out.only o6 (by simp))
      have O6 := Lib.hid (O5.out.trans (o6.mono (by simp)))
      clear HE5 Hrm5 O5 o6 r4 r10 htp5
      generalize w5.drewN nq = w6 at *
      obtain ⟨p0, KR, hKM⟩ : ∃ p0 KR, KM = p0 :: KR := by
        cases KM with
        | nil => simp at hKMl
        | cons p0 KR => exact ⟨p0, KR, rfl⟩
      subst hKM
      have hKRl : KR.length = K1.length := by simpa using hKMl
      go_wp2_with fail
      have r3 : w6.cell? ⟨b.tp, 3, none⟩ = some (.map (some b.mq)) := by rw [cell_of_blk HE6.out.blk]; rfl
      have r4 : w6.cell? ⟨b.tp, 4, none⟩ = some (.slice (some ⟨g, off, none⟩) (K1.length + 1) cap') := by rw [cell_of_blk HE6.out.blk]; rfl
      have htp6 : b.tp < w6.heap.size := lt_of_blk HE6.out.blk
      have hg6 : g < w6.heap.size := Hrm6.out.lt
      have hmql : b.mq < w6.heap.size := HE6.out.lt _ (mem_foot.2 (.inl (by simp [TB.fix])))
      have x0 := Hrm6.out.cell (i := 0) (f := 0) (x := encTrL p0.1) rfl rfl
      have x1 := Hrm6.out.cell (i := 0) (f := 1) (x := encTrL p0.1) rfl rfl
      simp only [Nat.zero_mul, Nat.add_zero] at x0 x1
      obtain ⟨c6, hmk⟩ := HE6.out.mq
      obtain ⟨msk2, hdel, q1, q2, q3, q4⟩ := run_delete_mem (P := Try.prog) (ty := 0) Try.underlying110 keyOk_trace (hmk.only (Only.drew (Only.refl [] w6)) (by simp)) p0.1 116
      have hdel' : (Builtin.delete_ #[110, 116] 0 #[.map (some b.mq), .agg #[.int .u64 p0.1.1, .int .u64 p0.1.2]]).run Try.prog w6.drew = .ok (.tuple #[]) (ChangeMaps.setBlock w6.drew b.mq (.map (msk2.map (Ent.mk' encTr)).toArray c6)) := hdel
      have HQ := Lib.hid (And.intro q1 (And.intro q2 (And.intro q3 q4)))
      clear q1 q2 q3 q4 hmk hdel
      go_region
      have hE7 := (HE6.out.only (Only.drew (Only.refl [] w6)) (by simp)).setMk HA5.out (o := .map (msk2.map (Ent.mk' encTr)).toArray c6) (MapMem.put hmql HQ.out.1 HQ.out.2.1 HQ.out.2.2.1)
      have o7 : Only [b.mq] w6 (ChangeMaps.setBlock w6.drew b.mq (.map (msk2.map (Ent.mk' encTr)).toArray c6)) := ((Only.refl [b.mq] w6).drew).trans (only_setBl w6.drew b.mq _)
      have hgq : g ∉ [b.mq] := by
        rw [List.mem_singleton]
        rintro rfl
        exact (HA5.out.fixF b.mq (by simp [TB.fix])).2 (by simp [blockOf])
      have HE7 := Lib.hid hE7
      have Hrm7 := Lib.hid (Hrm6.out.only o7 hgq)
      have O7 := Lib.hid (O6.out.trans (o7.mono (fun x hx _ => by rw [List.mem_singleton] at hx; rw [hx]; exact fmq)))
      have H7 := Lib.hid HQ.out.2.2.2
      clear hE7 o7 HE6 Hrm6 O6 HQ x0 x1 r3 r4 htp6 hg6 hmql hdel' hgq
      generalize ChangeMaps.setBlock w6.drew b.mq (.map (msk2.map (Ent.mk' encTr)).toArray c6) = w7 at *
      have r4 : w7.cell? ⟨b.tp, 4, none⟩ = some (.slice (some ⟨g, off, none⟩) (K1.length + 1) cap') := by rw [cell_of_blk HE7.out.blk]; rfl
      have f7 : ∀ i, w7.frozen? ⟨b.tp, i, none⟩ = false := fun i => frozen_of_blk HE7.out.blk
      have htp7 : b.tp < w7.heap.size := lt_of_blk HE7.out.blk
      obtain ⟨A, hA, hsl7⟩ : ∃ A : Addr, (if cap' = 1 then some (⟨g, off, none⟩ : Addr) else some ⟨g, off + 2, none⟩) = some A ∧ A.block = g ∧ SliceIs w7 116 2 ((KR.map (·.1)).map encTrL) (.slice (some A) K1.length (cap' - 1)) := by
        have h3 := Hrm7.out.tail
        by_cases hc : cap' = 1
        · rw [if_pos hc] at h3 ⊢
          refine ⟨_, rfl, rfl, ?_⟩
          have h4 := SliceIs.row h3
          rw [List.length_map, List.length_map, hKRl] at h4
          rw [hc]
          exact h4
        · rw [if_neg hc] at h3 ⊢
          refine ⟨_, rfl, rfl, ?_⟩
          have h4 := SliceIs.row h3
          rw [List.length_map, List.length_map, hKRl] at h4
          exact h4
      obtain ⟨hAg, hsl7⟩ := hsl7
      obtain ⟨hE8, hA8⟩ := HE7.out.ordTo HA5.out hsl7 (Only.refl _ _) (fun x hx => .inl (by simp only [blockOf, List.mem_singleton] at hx ⊢; rw [hx, hAg]))
      have hE9 := hE8.setTp hA8 4 (.slice (some A) K1.length (cap' - 1))
      have hE9' : Env (w7.setCell ⟨b.tp, 4, none⟩ (.slice (some A) K1.length (cap' - 1))) b (tArr b (.slice (some A) K1.length (cap' - 1)) (spansOf Q) now came most wait cache) Fh most (Q.map tmOf) mst msr msk2 (.slice (some A) K1.length (cap' - 1)) (KR.map (·.1)) Q := hE9
      have o9 := (only_setTp w7 b.tp 4 (.slice (some A) K1.length (cap' - 1)))
      have hO9 := O7.out.trans (o9.mono (fun x hx _ => by rw [List.mem_singleton] at hx; rw [hx]; exact foot_tp))
      have hKD : decK (hi, lo) keep cache K = KR := by
        rw [Hdec.out, if_pos (by rw [hKMl]; omega)]
        rfl
      have hKn : MapsSay mst msr msk2 Q (asc KR) := ⟨HM.out.t, HM.out.r, fun k => by
        have hnd2 := Hnd.out
        rw [List.map_cons, List.nodup_cons] at hnd2
        have e1 : asc KR k = if p0.1 = k then none else asc (p0 :: KR) k := asc_tail (k0 := p0.1) (v := p0.2) hnd2.1
        rw [H7.out k, H3.out k, e1, Hasc.out k]
        by_cases h1 : p0.1 = k
        · rw [if_pos h1, if_pos h1]; rfl
        · rw [if_neg h1, if_neg h1]
          by_cases h2 : ((hi, lo) : Tr) = k
          · rw [if_pos h2, if_pos h2]; rfl
          · rw [if_neg h2, if_neg h2]; exact HM.out.k k⟩
      have hfin : ∃ ov', TailIs (w7.setCell ⟨b.tp, 4, none⟩ (.slice (some A) K1.length (cap' - 1))) b Fh ov' most wait cache now came (asc (decK (hi, lo) keep cache K)) ((decK (hi, lo) keep cache K).map (·.1)) Q ∧ Only (foot b Fh (blockOf (.slice pa K.length pc)) Q) w (w7.setCell ⟨b.tp, 4, none⟩ (.slice (some A) K1.length (cap' - 1))) ∧ ∀ x ∈ foot b Fh (blockOf ov') Q, x ∈ foot b Fh (blockOf (.slice pa K.length pc)) Q ∨ w.heap.size ≤ x := by
        refine ⟨.slice (some A) K1.length (cap' - 1), ?_, hO9, fun x hx => ?_⟩
        · rw [hKD]
          exact ⟨⟨mst, msr, msk2, hE9', hKn⟩, hA8, HN.out⟩
        · rcases mem_foot.1 hx with h | h | h | h
          · exact .inl (mem_foot.2 (.inl h))
          · exact .inl (mem_foot.2 (.inr (.inl h)))
          · simp only [blockOf, List.mem_singleton] at h
            rw [h, hAg]
            exact Hg.out
          · exact .inl (mem_foot.2 (.inr (.inr (.inr h))))
      have Hfin := Lib.hid hfin
      clear hAg hsl7 hE8 hA8 hE9 hE9' o9 hO9 hKD hKn hfin hKRl hKMl Hnd Hasc Hdec Hmore Hrm7 H7 H3
      go_wp2_with fail
      go_end0
      exact ⟨rfl, Hfin.out⟩
    · have g1 : decide (cache < (K1.length : Int) + 1) = false := decide_eq_false hfull
      go_quiet (fail)
      go_wp2_with fail
      go_end0
      have o6 : Only [] w5 (w5.drewN nq) := (Only.refl [] _).drewN _
      have hKD : decK (hi, lo) keep cache K = KM := by rw [Hdec.out, if_neg (by rw [hKMl]; omega)]
      refine ⟨rfl, _, ⟨⟨mst, msr, msk', ?_, ⟨HM.out.t, HM.out.r, fun k => ?_⟩⟩, HA5.out, HN.out⟩, O5.out.trans (o6.mono (by simp)), fun x hx => ?_⟩
      · rw [hKD]; exact HE5.out.only o6 (by simp)
      · rw [hKD, H3.out k, Hasc.out k]
        by_cases h2 : ((hi, lo) : Tr) = k
        · rw [if_pos h2, if_pos h2]; rfl
        · rw [if_neg h2, if_neg h2]; exact HM.out.k k
      · rcases mem_foot.1 hx with h | h | h | h
        · exact .inl (mem_foot.2 (.inl h))
        · exact .inl (mem_foot.2 (.inr (.inl h)))
        · simp only [blockOf, List.mem_singleton] at h
          rw [h]
          exact Hg.out
        · exact .inl (mem_foot.2 (.inr (.inr (.inr h))))

end Go.Proofs.Ytcppnmogdmpdbaa
