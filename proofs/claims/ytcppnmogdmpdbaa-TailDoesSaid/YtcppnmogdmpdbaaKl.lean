/- Decide of package tail, where the trace was not decided yet and there is room for it. -/
import Derived.Test.YtcppnmogdmpdbaaKk
set_option linter.unusedVariables false
set_option linter.unusedSimpArgs false
namespace Go.Proofs.Ytcppnmogdmpdbaa
open Go.RowKit Go.Mk Go.Hp
attribute [-go_sem] Builtin.append_

section
variable {w w' : World} {b : TB} {T : Array Value} {Fh : List Nat} {most : Int} {S : List Tm} {mst msk : List (Ent Tr)} {msr : List (Ent Int)} {ov ov' : Value} {Or Or' : List Tr} {Q : List Wr}
/-- The row of what is known has changed, and nothing else. -/
theorem Env.ordTo (h : Env w b T Fh most S mst msr msk ov Or Q) (A : Apart b Fh (blockOf ov) Q) (hs : SliceIs w' 116 2 (Or'.map encTrL) ov') (ho : Only (blockOf ov) w w') (hb : ∀ x ∈ blockOf ov', x ∈ blockOf ov ∨ w.heap.size ≤ x) :
    Env w' b T Fh most S mst msr msk ov' Or' Q ∧ Apart b Fh (blockOf ov') Q := by
  have hl := h.lt
  have hf : ∀ x ∈ b.fix, x ∉ blockOf ov := fun x hx => (A.fixF x hx).2
  have hn : ∀ x, x < w.heap.size → x ∉ blockOf ov → x ∉ blockOf ov' := fun x h1 h2 hm => (hb x hm).elim h2 (fun h3 => by omega)
  obtain ⟨c1, k1⟩ := h.mt
  obtain ⟨c2, k2⟩ := h.mr
  obtain ⟨c3, k3⟩ := h.mq
  refine ⟨⟨ho.blk h.blk (hf _ (by simp [TB.fix])), h.heap.only ho (fun x hx hm => A.obF x hm hx), ⟨c1, k1.only ho (hf _ (by simp [TB.fix]))⟩, ⟨c2, k2.only ho (hf _ (by simp [TB.fix]))⟩, ⟨c3, k3.only ho (hf _ (by simp [TB.fix]))⟩, hs, fun q hq => (h.rows q hq).only ho (fun x hx => (A.rows q hq x hx).2.2)⟩,
    ⟨A.nd, fun x hx => ⟨(A.fixF x hx).1, hn x (hl x (mem_foot.2 (.inl hx))) (hf x hx)⟩, fun x hx hm => ?_, fun q hq x hx => ⟨(A.rows q hq x hx).1, (A.rows q hq x hx).2.1, hn x (hl x (mem_foot.2 (.inr (.inr (.inr ⟨q, hq, hx⟩))))) (A.rows q hq x hx).2.2⟩, A.sep⟩⟩
  rcases hb x hx with h4 | h4
  · exact A.obF x h4 hm
  · have := hl x (mem_foot.2 (.inr (.inl hm))); omega
end

theorem info_trace : ∃ i, Try.prog.info? 116 = some i ∧ i.zero = some (.agg #[.int .u64 0, .int .u64 0]) ∧ i.size = 2 ∧ i.bytes = 16 := by
  obtain ⟨i0, hi, hz0, hz1, hz2⟩ := info_parts (P := Try.prog) (e := 116) (z := .agg #[.int .u64 0, .int .u64 0]) (size := 2) (bytes := 16) (by kernel_rfl)
  exact ⟨i0, hi, hz0, hz1, hz2⟩

set_option maxRecDepth 100000 in
set_option maxHeartbeats 4000000 in
theorem decide_room {w : World} {b : TB} {Fh : List Nat} {ov : Value} {most wait cache now came : Int} {Kn : Tr → Option Bool} {Or : List Tr} {Q : List Wr} (h : TailIs w b Fh ov most wait cache now came Kn Or Q) (hi lo : Int) (keep : Bool) (hk : Kn (hi, lo) = none) (hroom : (Or.length : Int) < cache) (hc5 : cache ≤ 5000) :
    Calls Try.prog 37 #[.pointer (some ⟨b.tp, 0, none⟩), .int .u64 hi, .int .u64 lo, .bool keep] w fun e w' => e = .returned (.tuple #[]) ∧
      ∃ ov', TailIs w' b Fh ov' most wait cache now came (fun k => if (hi, lo) = k then some keep else Kn k) (Or ++ [(hi, lo)]) Q ∧ Only (foot b Fh (blockOf ov) Q) w w' ∧ ∀ x ∈ foot b Fh (blockOf ov') Q, x ∈ foot b Fh (blockOf ov) Q ∨ w.heap.size ≤ x := by
  obtain ⟨mst, msr, msk, hE, hM⟩ := h.env
  obtain ⟨pa, pc, hov⟩ := hE.ord.form
  rw [List.length_map] at hov
  subst hov
  have HM := Lib.hid hM
  have HA := Lib.hid h.ap
  have HN := Lib.hid h.num
  have Hl := Lib.hid hE.lt
  have o1 : Only [] w (w.alloc (.cells #[.int .u64 hi, .int .u64 lo] 116)) := (Only.refl [] _).alloc _
  have B8 := heap_alloc_new w (.cells #[.int .u64 hi, .int .u64 lo] 116)
  have HE1 := Lib.hid (hE.only o1 (by simp))
  have O1 : Hid (Only (foot b Fh (blockOf (.slice pa Or.length pc)) Q) w (w.alloc (.cells #[.int .u64 hi, .int .u64 lo] 116))) := o1.mono (by simp)
  have hb8n : w.heap.size ∉ foot b Fh (blockOf (.slice pa Or.length pc)) Q := fun hm => Nat.lt_irrefl _ (hE.lt _ hm)
  have Hb8n := Lib.hid hb8n
  clear h hE hM o1 hb8n
  go_enter Try.func37, Try.ntmps37
  go_wp2_with fail
  generalize hw1 : w.alloc (.cells #[.int .u64 hi, .int .u64 lo] 116) = w1 at *
  clear hw1
  generalize hb8 : w.heap.size = b8 at *
  have Hb8 := Lib.hid hb8
  clear hb8
  have k0 : w1.cell? ⟨b8, 0, none⟩ = some (.int .u64 hi) := by rw [cell_of_blk B8]; rfl
  have k1 : w1.cell? ⟨b8, 1, none⟩ = some (.int .u64 lo) := by rw [cell_of_blk B8]; rfl
  have r3 : w1.cell? ⟨b.tp, 3, none⟩ = some (.map (some b.mq)) := by rw [cell_of_blk HE1.out.blk]; rfl
  have htp1 : b.tp < w1.heap.size := lt_of_blk HE1.out.blk
  have hlk : ∀ m, (Instr.lookup 110 (.map (some b.mq)) (.agg #[.int .u64 hi, .int .u64 lo]) true).run Try.prog (w1.drewN m) = .ok (.tuple #[.bool false, .bool false]) (w1.drewN m) := fun m => by
    obtain ⟨c, hmk⟩ := HE1.out.mq
    have hg := HM.out.k (hi, lo)
    rw [hk] at hg
    have hz : (zeroValue 4).run Try.prog (w1.drewN m) = .ok (.bool false) (w1.drewN m) := Try.zeroValue4 _
    have h := run_lookup_ok (P := Try.prog) Try.underlying110 keyOk_trace hz (hmk.only ((Only.refl [] _).drewN m) (by simp)) (hi, lo)
    rw [hg] at h
    exact h
  go_quiet (fail)
  have o2 : Only [] w1 (w1.drewN nq) := (Only.refl [] _).drewN _
  have B8 := o2.blk B8 (by simp)
  have HE2 := Lib.hid (HE1.out.only o2 (by simp))
  have O2 := Lib.hid (O1.out.trans (o2.mono (by simp)))
  clear HE1 O1 o2 hlk k0 k1 r3 htp1
  generalize w1.drewN nq = w2 at *
  go_wp2_with fail
  have k0 : w2.cell? ⟨b8, 0, none⟩ = some (.int .u64 hi) := by rw [cell_of_blk B8]; rfl
  have k1 : w2.cell? ⟨b8, 1, none⟩ = some (.int .u64 lo) := by rw [cell_of_blk B8]; rfl
  have r3 : w2.cell? ⟨b.tp, 3, none⟩ = some (.map (some b.mq)) := by rw [cell_of_blk HE2.out.blk]; rfl
  have htp2 : b.tp < w2.heap.size := lt_of_blk HE2.out.blk
  have hb82 : b8 < w2.heap.size := lt_of_blk B8
  have fmq : b.mq ∈ foot b Fh (blockOf (.slice pa Or.length pc)) Q := mem_foot.2 (.inl (by simp [TB.fix]))
  have hmql := HE2.out.lt _ fmq
  obtain ⟨c2, hmk⟩ := HE2.out.mq
  obtain ⟨msk', c2', hup, q1, q2, q3, q4⟩ := run_mapUpdate_mem (P := Try.prog) Try.underlying110 keyOk_trace (hmk.only (Only.drew (Only.refl [] w2)) (by simp)) (hi, lo) (.bool keep)
  have hup' : (Instr.mapUpdate 110 (.map (some b.mq)) (.agg #[.int .u64 hi, .int .u64 lo]) (.bool keep)).run Try.prog w2.drew = .ok () (ChangeMaps.setBlock w2.drew b.mq (.map (msk'.map (Ent.mk' encTr)).toArray c2')) := hup
  have HQ := Lib.hid (And.intro q1 (And.intro q2 (And.intro q3 q4)))
  clear q1 q2 q3 q4 hmk hup
  go_region
  have hE3 := (HE2.out.only (Only.drew (Only.refl [] w2)) (by simp)).setMk HA.out (o := .map (msk'.map (Ent.mk' encTr)).toArray c2') (MapMem.put hmql HQ.out.1 HQ.out.2.1 HQ.out.2.2.1)
  have o3 : Only [b.mq] w2 (ChangeMaps.setBlock w2.drew b.mq (.map (msk'.map (Ent.mk' encTr)).toArray c2')) := ((Only.refl [b.mq] w2).drew).trans (only_setBl w2.drew b.mq _)
  have HE3 := Lib.hid hE3
  have O3 := Lib.hid (O2.out.trans (o3.mono (fun x hx _ => by rw [List.mem_singleton] at hx; rw [hx]; exact fmq)))
  have H3 := Lib.hid HQ.out.2.2.2
  have B8 := o3.blk B8 (by rw [List.mem_singleton]; rintro rfl; exact Hb8n.out fmq)
  clear hE3 o3 HE2 O2 HQ k0 k1 r3 htp2 hb82 hup' hmql
  generalize ChangeMaps.setBlock w2.drew b.mq (.map (msk'.map (Ent.mk' encTr)).toArray c2') = w3 at *
  go_wp2_with fail
  have k0 : w3.cell? ⟨b8, 0, none⟩ = some (.int .u64 hi) := by rw [cell_of_blk B8]; rfl
  have k1 : w3.cell? ⟨b8, 1, none⟩ = some (.int .u64 lo) := by rw [cell_of_blk B8]; rfl
  have r4 : w3.cell? ⟨b.tp, 4, none⟩ = some (.slice pa Or.length pc) := by rw [cell_of_blk HE3.out.blk]; rfl
  have htp3 : b.tp < w3.heap.size := lt_of_blk HE3.out.blk
  have hb83 : b8 < w3.heap.size := lt_of_blk B8
  have oW : Only [] w3 (w3.alloc (.cells #[.int .u64 hi, .int .u64 lo] 116)).drew := ((Only.refl [] _).alloc _).drew
  have hBn := heap_alloc_new w3 (.cells #[.int .u64 hi, .int .u64 lo] 116)
  obtain ⟨i0, hi0, hz0, hz1, hz2⟩ := info_trace
  obtain ⟨g, off, cap', w4, hap, hrm, o4, hg⟩ := run_append_is (P := Try.prog) (t := 111) (ty := 111) (a := ⟨w3.heap.size, 0, none⟩) (m := 1) (c := 1) (news := [encTrL (hi, lo)]) Try.underlying111 hi0 hz0 hz1 hz2 rfl
    (HE3.out.ord.only oW (by simp)) rfl (by simp [encTrL]) (by
      intro j v hj
      have hadd : (⟨w3.heap.size, 0, none⟩ : Addr).add j = ⟨w3.heap.size, j, none⟩ := by unfold Addr.add; split <;> simp_all
      rw [hadd]
      refine (cell_of_blk (w := w3.alloc _) hBn).trans ?_
      rw [show (#[Value.int .u64 hi, .int .u64 lo] : Array Value) = [Value.int .u64 hi, .int .u64 lo].toArray from rfl, List.getElem?_toArray]
      simpa [encTrL] using hj) (by simp [encTrL, Value.oneCell']) (by omega) (by simp only [List.length_map, maxLen]; omega) (by rw [List.length_map]; omega)
  simp only [List.length_map] at hap
  have ntp : b.tp ∉ blockOf (.slice pa Or.length pc) := (HA.out.fixF b.tp (by simp [TB.fix])).2
  have n4 := o4.cell (oW.cell r4 (by simp)) ntp
  have f4 : w4.frozen? ⟨b.tp, 4, none⟩ = false := (World.frozen?_of_block (a := ⟨b.tp, 4, none⟩) (o4.block b.tp (oW.lt htp3) ntp)).trans (frozen_of_blk (oW.blk HE3.out.blk (by simp)))
  have htp4 : b.tp < w4.heap.size := lt_of_cell n4
  have HAP := Lib.hid (And.intro hrm (And.intro o4 hg))
  have HW := Lib.hid oW
  clear hrm o4 hg oW hBn hi0 hz0 hz1 hz2 ntp
  go_region
  obtain ⟨hrm, o4, hg⟩ := HAP.out
  have hsl : SliceIs w4 116 2 ((Or ++ [(hi, lo)]).map encTrL) (.slice (some ⟨g, off, none⟩) (Or.length + 1) cap') := by
    have h3 := SliceIs.row hrm
    rw [List.length_append, List.length_map, List.length_singleton] at h3
    rw [List.map_append]
    exact h3
  obtain ⟨hE4, hA4⟩ := (HE3.out.only HW.out (by simp)).ordTo HA.out hsl o4 (fun x hx => by simp only [blockOf, List.mem_singleton] at hx; rw [hx]; exact hg)
  have hE5 := hE4.setTp hA4 4 (.slice (some ⟨g, off, none⟩) (Or.length + 1) cap')
  have hE5' : Env (w4.setCell ⟨b.tp, 4, none⟩ (.slice (some ⟨g, off, none⟩) (Or.length + 1) cap')) b (tArr b (.slice (some ⟨g, off, none⟩) (Or.length + 1) cap') (spansOf Q) now came most wait cache) Fh most (Q.map tmOf) mst msr msk' (.slice (some ⟨g, off, none⟩) (Or.length + 1) cap') (Or ++ [(hi, lo)]) Q := hE5
  have O5 : Hid (Only (foot b Fh (blockOf (.slice pa Or.length pc)) Q) w (w4.setCell ⟨b.tp, 4, none⟩ (.slice (some ⟨g, off, none⟩) (Or.length + 1) cap'))) :=
    ((O3.out.trans (HW.out.mono (by simp))).trans (o4.mono (fun x hx _ => mem_foot.2 (.inr (.inr (.inl hx)))))).trans ((only_setTp w4 b.tp 4 _).mono (fun x hx _ => by rw [List.mem_singleton] at hx; rw [hx]; exact foot_tp))
  have Hg : Hid (g ∈ blockOf (.slice pa Or.length pc) ∨ w.heap.size ≤ g) := hg.imp id (fun h => Nat.le_trans (Nat.le_trans O3.out.size HW.out.size) h)
  have HE5 := Lib.hid hE5'
  have HA5 := Lib.hid hA4
  clear hrm o4 hg hsl hE4 hA4 hE5 hE5' HAP HW HE3 O3 k0 k1 r4 htp3 hb83 n4 f4 htp4 hap B8
  generalize w4.setCell ⟨b.tp, 4, none⟩ (.slice (some ⟨g, off, none⟩) (Or.length + 1) cap') = w5 at *
  go_wp2_with fail
  have r4 : w5.cell? ⟨b.tp, 4, none⟩ = some (.slice (some ⟨g, off, none⟩) (Or.length + 1) cap') := by rw [cell_of_blk HE5.out.blk]; rfl
  have r10 : w5.cell? ⟨b.tp, 10, none⟩ = some (.int .i64 cache) := by rw [cell_of_blk HE5.out.blk]; rfl
  have htp5 : b.tp < w5.heap.size := lt_of_blk HE5.out.blk
  have g1 : decide (cache < (Or.length : Int) + 1) = false := decide_eq_false (by omega)
  go_quiet (fail)
  go_wp2_with fail
  go_end0
  have o6 : Only [] w5 (w5.drewN nq) := (Only.refl [] _).drewN _
  refine ⟨rfl, _, ⟨⟨mst, msr, msk', HE5.out.only o6 (by simp), ⟨HM.out.t, HM.out.r, fun k => ?_⟩⟩, HA5.out, HN.out⟩, O5.out.trans (o6.mono (by simp)), fun x hx => ?_⟩
  · rw [H3.out k]
    by_cases he : (hi, lo) = k
    · rw [if_pos he, if_pos he]; rfl
    · rw [if_neg he, if_neg he]; exact HM.out.k k
  · rcases mem_foot.1 hx with h | h | h | h
    · exact .inl (mem_foot.2 (.inl h))
    · exact .inl (mem_foot.2 (.inr (.inl h)))
    · simp only [blockOf, List.mem_singleton] at h
      rw [h]
      exact Hg.out.imp (fun h => mem_foot.2 (.inr (.inr (.inl h)))) id
    · exact .inl (mem_foot.2 (.inr (.inr (.inr h))))

end Go.Proofs.Ytcppnmogdmpdbaa
