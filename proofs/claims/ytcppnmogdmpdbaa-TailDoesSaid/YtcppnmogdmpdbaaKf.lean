/- Due of package tail: the traces that are due come out, in order. -/
import Derived.Test.YtcppnmogdmpdbaaKe
set_option linter.unusedVariables false
set_option linter.unusedSimpArgs false
namespace Go.Proofs.Ytcppnmogdmpdbaa
open Go.RowKit Go.Mk Go.Hp
attribute [-go_sem] Builtin.append_

theorem info_group : ∃ i z, Try.prog.info? 71 = some i ∧ i.zero = some z ∧ i.size = 3 ∧ i.bytes ≤ 1000 ∧ z.cells.size = 3 := by
  have h : (Try.prog.info? 71).map (fun i => (i.zero.map (fun z => z.cells.size), i.size, decide (i.bytes ≤ 1000))) = some (some 3, 3, true) := by kernel_rfl
  cases hi : Try.prog.info? 71 with
  | none => rw [hi] at h; cases h
  | some i =>
    rw [hi] at h
    simp only [Option.map_some, Option.some.injEq, Prod.mk.injEq, decide_eq_true_eq] at h
    obtain ⟨h1, h2, h3⟩ := h
    cases hz : i.zero with
    | none => rw [hz] at h1; cases h1
    | some z => rw [hz] at h1; exact ⟨i, z, rfl, hz, h2, h3, by simpa using h1⟩

/-- What comes out of a trace. -/
def grp (q : Wr) : List Value := [.int .u64 q.tr.1, .int .u64 q.tr.2, q.sv]

theorem mapsay_tail {mst mst' msk : List (Ent Tr)} {msr msr' : List (Ent Int)} {Q : List Wr} {p : Wr} {Kn : Tr → Option Bool} (h : MapsSay mst msr msk (p :: Q) Kn) (ht : p.tr ∉ Q.map (·.tr)) (hn : p.no ∉ Q.map (·.no))
    (h1 : ∀ k, getL k mst' = if p.tr = k then none else getL k mst) (h2 : ∀ k, getL k msr' = if p.no = k then none else getL k msr) : MapsSay mst' msr' msk Q Kn := by
  refine ⟨fun k => ?_, fun k => ?_, h.k⟩
  · rw [h1 k, h.t k, asc_tail (k0 := p.tr) (v := p.no) (L := Q.map fun q => (q.tr, q.no)) (by simpa [List.map_map, Function.comp_def] using ht)]
    by_cases he : p.tr = k
    · rw [if_pos he, if_pos he]; rfl
    · rw [if_neg he, if_neg he]; rfl
  · rw [h2 k, h.r k, asc_tail (k0 := p.no) (v := p.wb) (L := Q.map fun q => (q.no, q.wb)) (by simpa [List.map_map, Function.comp_def] using hn)]
    by_cases he : p.no = k
    · rw [if_pos he, if_pos he]; rfl
    · rw [if_neg he, if_neg he]; rfl

def dueQ (n : Int) (Q : List Wr) : List Wr := Q.takeWhile (fun q => decide (q.due ≤ n))
def restQ (n : Int) (Q : List Wr) : List Wr := Q.dropWhile (fun q => decide (q.due ≤ n))
theorem due_map (n : Int) : ∀ Q : List Wr, takeDue n (Q.map tmOf) = (dueQ n Q).map tmOf ∧ restDue n (Q.map tmOf) = (restQ n Q).map tmOf
  | [] => ⟨rfl, rfl⟩
  | q :: Q => by
    obtain ⟨h1, h2⟩ := due_map n Q
    unfold takeDue restDue dueQ restQ at *
    by_cases h : q.due ≤ n
    · have e : decide ((tmOf q).1 ≤ n) = true := decide_eq_true h
      have e2 : decide (q.due ≤ n) = true := decide_eq_true h
      constructor
      · rw [List.map_cons, List.takeWhile_cons, e, List.takeWhile_cons, e2]; simp [h1]
      · rw [List.map_cons, List.dropWhile_cons, e, List.dropWhile_cons, e2]; simp [h2]
    · have e : decide ((tmOf q).1 ≤ n) = false := decide_eq_false h
      have e2 : decide (q.due ≤ n) = false := decide_eq_false h
      constructor
      · rw [List.map_cons, List.takeWhile_cons, e, List.takeWhile_cons, e2]; simp
      · rw [List.map_cons, List.dropWhile_cons, e, List.dropWhile_cons, e2]; simp
theorem due_split' (n : Int) (Q : List Wr) : dueQ n Q ++ restQ n Q = Q := List.takeWhile_append_dropWhile

set_option maxRecDepth 100000 in
set_option maxHeartbeats 4000000 in
theorem tail_Due {w : World} {b : TB} {Fh : List Nat} {ov : Value} {most wait cache now came : Int} {Kn : Tr → Option Bool} {Or : List Tr} {Q : List Wr} (h : TailIs w b Fh ov most wait cache now came Kn Or Q) (n : Int) (h1 : now ≤ n) (h2 : n ≤ 1099511627776) :
    Calls Try.prog 32 #[.pointer (some ⟨b.tp, 0, none⟩), .int .i64 n] w fun e w' => ∃ gv, e = .returned (.tuple #[gv, .int .u16 0]) ∧ SliceIs w' 71 3 ((dueQ n Q).map grp) gv ∧
      (∀ q ∈ dueQ n Q, RowOk w' q) ∧ TailIs w' b Fh ov most wait cache n came Kn Or (restQ n Q) ∧ Only (foot b Fh (blockOf ov) Q) w w' ∧ ∀ x ∈ blockOf gv, w.heap.size ≤ x := by
  have hdm := due_map n Q
  have hDR := due_split' n Q
  generalize dueQ n Q = D at *
  generalize restQ n Q = R at *
  have HDR := Lib.hid hDR
  have HDM := Lib.hid hdm
  clear hDR hdm
  obtain ⟨mst, msr, msk, hE, hM⟩ := h.env
  have HM := Lib.hid hM
  have HA := Lib.hid h.ap
  have HN := Lib.hid h.num
  have Hl := Lib.hid hE.lt
  have ct := turn_ok b.tp now n w (by rw [cell_of_blk hE.blk]; rfl) (frozen_of_blk hE.blk) h1 h2
  have CT := Lib.hid ct
  have HE := Lib.hid hE
  clear ct hE hM h
  go_enter Try.func32, Try.ntmps32
  go_wp2_with fail
  refine CT.out.mono ?_
  rintro e w2 ⟨rfl, hw2⟩
  have hE2 : Env w2 b (tArr b ov (spansOf Q) n came most wait cache) Fh most (Q.map tmOf) mst msr msk ov Or Q := by rw [hw2]; exact HE.out.setTp HA.out 6 (.int .i64 n)
  have O2 : Hid (Only (foot b Fh (blockOf ov) Q) w w2) := by
    show Only (foot b Fh (blockOf ov) Q) w w2
    rw [hw2]; exact (only_setTp _ _ _ _).mono (fun x hx _ => by rw [List.mem_singleton] at hx; rw [hx]; exact foot_tp)
  have r0 : w2.cell? ⟨b.tp, 0, none⟩ = some (.pointer (some ⟨b.hp, 0, none⟩)) := by rw [cell_of_blk hE2.blk]; rfl
  have htp2 : b.tp < w2.heap.size := lt_of_blk hE2.blk
  have cd := heap_Due hE2.heap n
  have CD := Lib.hid cd
  have HE2 := Lib.hid hE2
  clear hw2 CT HE cd hE2
  go_wp2_with fail
  refine CD.out.mono ?_
  rintro e w3 ⟨tv, rfl, hsl, hH, o3, htv⟩
  rw [HDM.out.1] at hsl
  rw [HDM.out.2] at hH
  obtain ⟨hE3, hA3⟩ := HE2.out.heapTo HA.out hH o3 (fun x hx => .inl hx)
  obtain ⟨tp0, tc, htv2⟩ := hsl.form
  simp only [List.length_map] at htv2
  subst htv2
  have HE3 := Lib.hid hE3
  have Hsl := Lib.hid hsl
  have O3 := Lib.hid (O2.out.trans (o3.mono (fun x hx _ => mem_foot.2 (.inr (.inl hx)))))
  have Htv : Hid (∀ x ∈ blockOf (.slice tp0 D.length tc), x ∉ foot b Fh (blockOf ov) Q) := fun x hx hm => by
    have h3 := htv x hx
    have h4 := Hl.out x hm
    have h5 := O2.out.size
    omega
  have Hs2 := Lib.hid O2.out.size
  clear hH o3 hE3 hA3 hsl htv r0 htp2 CD HE2 O2
  go_wp2_with fail
  go_loopw [7, 9, 10, 24] (fun s7 _ _ s24 wr => ∃ (j : Nat) (gv : Value) (mst msk : List (Ent Tr)) (msr : List (Ent Int)), gv = s7 ∧ s24 = .int .i64 j ∧ j ≤ D.length ∧ SliceIs wr 71 3 ((D.take j).map grp) gv ∧
    Env wr b (tArr b ov (spansOf (Q.drop j)) n came most wait cache) Fh most (R.map tmOf) mst msr msk ov Or Q ∧ MapsSay mst msr msk (Q.drop j) Kn ∧ Only (foot b Fh (blockOf ov) Q) w wr ∧ (∀ x ∈ blockOf gv, w.heap.size ≤ x ∧ x ∉ foot b Fh (blockOf ov) Q ∧ x ∉ blockOf (.slice tp0 D.length tc)) ∧ SliceIs wr 30 2 ((D.map tmOf).map encT) (.slice tp0 D.length tc)) (fun _ _ _ s24 _ => D.length - (intOf s24).toNat)
  case atStart => exact ⟨0, .slice none 0 0, mst, msk, msr, rfl, rfl, by omega, .nil, HE3.out, HM.out, O3.out, by simp [blockOf], Hsl.out⟩
  case round =>
    obtain ⟨j, gv, mst, msk, msr, rfl, rfl, hj, hg, hE, hM, hO, hgb, hT⟩ := hrel
    clear HE3 HM O3 Hsl
    by_cases hlt : j < D.length
    · obtain ⟨p, hp⟩ : ∃ p, D[j]? = some p := ⟨_, List.getElem?_eq_getElem hlt⟩
      have hQj : Q[j]? = some p := by rw [← HDR.out, List.getElem?_append_left hlt]; exact hp
      have hQd : Q.drop j = p :: Q.drop (j + 1) := by
        have hjl := (List.getElem?_eq_some_iff.1 hQj).1
        rw [List.drop_eq_getElem_cons hjl]
        congr 1
        exact (List.getElem?_eq_some_iff.1 hQj).2
      have hpm := List.mem_of_getElem? hQj
      have hrow := hE.rows p hpm
      obtain ⟨pa, pc, hsv⟩ := hrow.sl.form
      rw [List.length_map] at hsv
      obtain ⟨gp, gc, hgv⟩ := hg.form
      have htk : (D.take j).length = j := by rw [List.length_take]; omega
      rw [List.length_map, htk] at hgv
      have hlk : ∃ g2 off2, tp0 = some ⟨g2, off2, none⟩ ∧ g2 < wr.heap.size ∧ wr.cell? ⟨g2, off2 + j * 2, none⟩ = some (.int .i64 p.due) ∧ wr.cell? ⟨g2, off2 + j * 2 + 1, none⟩ = some (.int .i64 p.no) := by
        generalize hX : (D.map tmOf).map encT = X at hT
        generalize hV : Value.slice tp0 D.length tc = V at hT
        cases hT with
        | nil =>
          obtain ⟨_, h3, _⟩ := Value.slice.inj hV
          omega
        | @row _ g2 off2 cap2 hr =>
          obtain ⟨h3, _, _⟩ := Value.slice.inj hV
          subst h3 hX
          have hx : ((D.map tmOf).map encT)[j]? = some (encT (tmOf p)) := by rw [List.getElem?_map, List.getElem?_map, hp]; rfl
          exact ⟨g2, off2, rfl, hr.lt, hr.cell (f := 0) hx rfl, hr.cell (f := 1) hx rfl⟩
      obtain ⟨g2, off2, rfl, hg2, t0, t1⟩ := hlk
      have hspl : spansOf (Q.drop j) = p.sps.length + spansOf (Q.drop (j + 1)) := by rw [hQd]; simp [spansOf]
      have hspm : (spansOf (Q.drop j) : Int) ≤ 5000 := by
        have h3 : spansOf Q = spansOf (Q.take j) + spansOf (Q.drop j) := by
          have h4 := List.take_append_drop j Q
          have h5 : ∀ A B : List Wr, spansOf (A ++ B) = spansOf A + spansOf B := fun A B => by simp [spansOf]
          rw [← h5, h4]
        have := HN.out.full
        have := HN.out.most1
        omega
      have hnd : p.tr ∉ (Q.drop (j + 1)).map (·.tr) ∧ p.no ∉ (Q.drop (j + 1)).map (·.no) := by
        have a1 := (HN.out.trs).sublist (List.Sublist.map (·.tr) (List.drop_sublist j Q))
        have a2 := (HN.out.nos).sublist (List.Sublist.map (·.no) (List.drop_sublist j Q))
        rw [hQd] at a1 a2
        exact ⟨(List.nodup_cons.1 a1).1, (List.nodup_cons.1 a2).1⟩
      have hnod : ((Q.drop j).map (·.no)).Nodup := (HN.out.nos).sublist (List.Sublist.map (·.no) (List.drop_sublist j Q))
      have hrowm := mapsay_row hM hnod (i := 0) (p := p) (by rw [hQd]; rfl)
      obtain ⟨pno, pdue, ⟨hi, lo⟩, psps, pwb, psv⟩ := p
      simp only at hsv t0 t1 hspl hrowm hnd
      subst hsv hgv
      have g1 : decide (j < D.length) = true := decide_eq_true hlt
      have hDl : (D.length : Int) ≤ 5000 := by
        have h3 := spans_len HN.out.ne
        have h4 := HN.out.full
        have h5 := HN.out.most1
        have h6 : D.length ≤ Q.length := by rw [← HDR.out, List.length_append]; omega
        omega
      have HE := Lib.hid hE
      have HMj := Lib.hid hM
      have HOj := Lib.hid hO
      have Hgj := Lib.hid hg
      have Hgb := Lib.hid hgb
      have HTj := Lib.hid hT
      have Hrow := Lib.hid hrow
      have Hp := Lib.hid hp
      have HQj := Lib.hid hQj
      have HQd := Lib.hid hQd
      have Hnd := Lib.hid hnd
      have Hspl := Lib.hid hspl
      have Hrm := Lib.hid hrowm
      have Hpm := Lib.hid hpm
      have Htk := Lib.hid htk
      clear hE hM hO hg hgb hT hrow hp hQj hQd hnd hspl hrowm hnod hpm htk
      go_wp2_with fail
      -- the timer stands in a block of its own
      have o1 : Only [] wr (wr.alloc (.cells #[.int .i64 pdue, .int .i64 pno] 30)) := (Only.refl [] _).alloc _
      have B9 := heap_alloc_new wr (.cells #[.int .i64 pdue, .int .i64 pno] 30)
      have HE1 := Lib.hid (HE.out.only o1 (by simp))
      have HO1 := Lib.hid (HOj.out.trans (o1.mono (by simp)))
      have HG1 := Lib.hid (Hgj.out.only o1 (by simp))
      have HT1 := Lib.hid (HTj.out.only o1 (by simp))
      have hb9n : wr.heap.size ∉ foot b Fh (blockOf ov) Q := fun hm => Nat.lt_irrefl _ (HE.out.lt _ hm)
      have hb9w : w.heap.size ≤ wr.heap.size := HOj.out.size
      have Hb9n := Lib.hid hb9n
      clear HE HOj Hgj HTj o1 t0 t1 hg2 hb9n
      generalize wr.alloc (.cells #[.int .i64 pdue, .int .i64 pno] 30) = w1 at *
      generalize wr.heap.size = b9 at *
      have k1 : w1.cell? ⟨b9, 1, none⟩ = some (.int .i64 pno) := by rw [cell_of_blk B9]; rfl
      have r2 : w1.cell? ⟨b.tp, 2, none⟩ = some (.map (some b.mr)) := by rw [cell_of_blk HE1.out.blk]; rfl
      have htp1 : b.tp < w1.heap.size := lt_of_blk HE1.out.blk
      have hb91 : b9 < w1.heap.size := lt_of_blk B9
      have hlk : ∀ m, (Instr.lookup 109 (.map (some b.mr)) (.int .i64 pno) false).run Try.prog (w1.drewN m) = .ok (.pointer (some ⟨pwb, 0, none⟩)) (w1.drewN m) := fun m => by
        obtain ⟨c, hmr⟩ := HE1.out.mr
        have h := run_lookup_one (P := Try.prog) Try.underlying109 (keyOk_int Try.underlying3) (z := .pointer none) (Try.zeroValue117 _) (hmr.only ((Only.refl [] _).drewN m) (by simp)) pno
        rw [Hrm.out] at h
        exact h
      go_quiet (fail)
      have o2 : Only [] w1 (w1.drewN nq) := (Only.refl [] _).drewN _
      have B9 := o2.blk B9 (by simp)
      have HE2 := Lib.hid (HE1.out.only o2 (by simp))
      have HO2 := Lib.hid (HO1.out.trans (o2.mono (by simp)))
      have HG2 := Lib.hid (HG1.out.only o2 (by simp))
      have HT2 := Lib.hid (HT1.out.only o2 (by simp))
      clear HE1 HO1 HG1 HT1 o2 k1 r2 htp1 hb91 hlk
      generalize w1.drewN nq = w2 at *
      go_wp2_with fail
      have k1 : w2.cell? ⟨b9, 1, none⟩ = some (.int .i64 pno) := by rw [cell_of_blk B9]; rfl
      have r2 : w2.cell? ⟨b.tp, 2, none⟩ = some (.map (some b.mr)) := by rw [cell_of_blk HE2.out.blk]; rfl
      have htp2 : b.tp < w2.heap.size := lt_of_blk HE2.out.blk
      have hb92 : b9 < w2.heap.size := lt_of_blk B9
      obtain ⟨c2, hmr⟩ := HE2.out.mr
      obtain ⟨msr', hdel, q1, q2, q3, q4⟩ := run_delete_mem (P := Try.prog) (ty := 0) Try.underlying109 (keyOk_int Try.underlying3) (hmr.only (Only.drew (Only.refl [] w2)) (by simp)) pno 3
      have HQ := Lib.hid (And.intro q1 (And.intro q2 (And.intro q3 q4)))
      clear q1 q2 q3 q4 hmr
      go_region
      have fmr : b.mr ∈ foot b Fh (blockOf ov) Q := mem_foot.2 (.inl (by simp [TB.fix]))
      have fmt : b.mt ∈ foot b Fh (blockOf ov) Q := mem_foot.2 (.inl (by simp [TB.fix]))
      have n9 : ∀ x ∈ blockOf (.slice gp j gc), x ∉ foot b Fh (blockOf ov) Q := fun x hx => (Hgb.out x hx).2.1
      have hE3 := (HE2.out.only (Only.drew (Only.refl [] w2)) (by simp)).setMr HA.out (o := .map (msr'.map (Ent.mk' (Value.int .i64))).toArray c2) (MapMem.put (HE2.out.lt _ fmr) HQ.out.1 HQ.out.2.1 HQ.out.2.2.1)
      have o3 : Only [b.mr] w2 (ChangeMaps.setBlock w2.drew b.mr (.map (msr'.map (Ent.mk' (Value.int .i64))).toArray c2)) := ((Only.refl [b.mr] w2).drew).trans (only_setBl w2.drew b.mr _)
      have HE3 := Lib.hid hE3
      have HO3 := Lib.hid (HO2.out.trans (o3.mono (fun x hx _ => by rw [List.mem_singleton] at hx; rw [hx]; exact fmr)))
      have HG3 := Lib.hid (HG2.out.only o3 (fun x hx hm => n9 x hx (by rw [List.mem_singleton] at hm; rw [hm]; exact fmr)))
      have HT3 := Lib.hid (HT2.out.only o3 (fun x hx hm => Htv.out x hx (by rw [List.mem_singleton] at hm; rw [hm]; exact fmr)))
      have H3 := Lib.hid HQ.out.2.2.2
      have N9 := Lib.hid n9
      have Fmt := Lib.hid fmt
      clear hE3 o3 HE2 HO2 HG2 HT2 HQ k1 r2 htp2 hb92 hdel B9 n9 fmr fmt
      generalize ChangeMaps.setBlock w2.drew b.mr (.map (msr'.map (Ent.mk' (Value.int .i64))).toArray c2) = w3 at *
      go_wp2_with fail
      have hrow3 := HE3.out.rows _ Hpm.out
      obtain ⟨v0, v1, v2, vf⟩ := span_row hrow3
      simp only at v0 v1 v2
      have r1 : w3.cell? ⟨b.tp, 1, none⟩ = some (.map (some b.mt)) := by rw [cell_of_blk HE3.out.blk]; rfl
      have htp3 : b.tp < w3.heap.size := lt_of_blk HE3.out.blk
      have hwb3 : pwb < w3.heap.size := lt_of_blk hrow3.blk
      obtain ⟨c3, hmt⟩ := HE3.out.mt
      obtain ⟨mst', hdel, q1, q2, q3, q4⟩ := run_delete_mem (P := Try.prog) (ty := 0) Try.underlying108 keyOk_trace (hmt.only (Only.drew (Only.refl [] w3)) (by simp)) (hi, lo) 116
      have hdel' : (Builtin.delete_ #[108, 116] 0 #[.map (some b.mt), .agg #[.int .u64 hi, .int .u64 lo]]).run Try.prog w3.drew = .ok (.tuple #[]) (ChangeMaps.setBlock w3.drew b.mt (.map (mst'.map (Ent.mk' encTr)).toArray c3)) := hdel
      have HQ := Lib.hid (And.intro q1 (And.intro q2 (And.intro q3 q4)))
      clear q1 q2 q3 q4 hmt hdel hrow3 v2
      go_region
      have hE4 := (HE3.out.only (Only.drew (Only.refl [] w3)) (by simp)).setMt HA.out (o := .map (mst'.map (Ent.mk' encTr)).toArray c3) (MapMem.put (HE3.out.lt _ Fmt.out) HQ.out.1 HQ.out.2.1 HQ.out.2.2.1)
      have o4 : Only [b.mt] w3 (ChangeMaps.setBlock w3.drew b.mt (.map (mst'.map (Ent.mk' encTr)).toArray c3)) := ((Only.refl [b.mt] w3).drew).trans (only_setBl w3.drew b.mt _)
      have HE4 := Lib.hid hE4
      have HO4 := Lib.hid (HO3.out.trans (o4.mono (fun x hx _ => by rw [List.mem_singleton] at hx; rw [hx]; exact Fmt.out)))
      have HG4 := Lib.hid (HG3.out.only o4 (fun x hx hm => N9.out x hx (by rw [List.mem_singleton] at hm; rw [hm]; exact Fmt.out)))
      have HT4 := Lib.hid (HT3.out.only o4 (fun x hx hm => Htv.out x hx (by rw [List.mem_singleton] at hm; rw [hm]; exact Fmt.out)))
      have H4 := Lib.hid HQ.out.2.2.2
      clear hE4 o4 HE3 HO3 HG3 HT3 HQ r1 htp3 hdel' v0 v1 vf hwb3
      generalize ChangeMaps.setBlock w3.drew b.mt (.map (mst'.map (Ent.mk' encTr)).toArray c3) = w4 at *
      go_wp2_with fail
      have hrow4 := HE4.out.rows _ Hpm.out
      obtain ⟨v0, v1, v2, vf⟩ := span_row hrow4
      simp only at v0 v1 v2
      have r5 : w4.cell? ⟨b.tp, 5, none⟩ = some (.int .i64 (spansOf (Q.drop j))) := by rw [cell_of_blk HE4.out.blk]; rfl
      have f4 : ∀ i, w4.frozen? ⟨b.tp, i, none⟩ = false := fun i => frozen_of_blk HE4.out.blk
      have htp4 : b.tp < w4.heap.size := lt_of_blk HE4.out.blk
      have hwb4 : pwb < w4.heap.size := lt_of_blk hrow4.blk
      have hwr : IntKind.i64.wrap ((spansOf (Q.drop j) : Int) - (psps.length : Int)) = (spansOf (Q.drop (j + 1)) : Int) := by
        have h3 := Hspl.out
        have h4 : (spansOf (Q.drop j) : Int) - (psps.length : Int) = (spansOf (Q.drop (j + 1)) : Int) := by omega
        rw [h4]
        simp [IntKind.wrap, IntKind.bits, IntKind.signed]; omega
      clear hrow4 v0 v1
      go_region
      have hE5 := (HE4.out.setTp HA.out 5 (.int .i64 (spansOf (Q.drop (j + 1))))).only (Only.drew (Only.refl [] _)) (by simp)
      have hE5' : Env (w4.setCell ⟨b.tp, 5, none⟩ (.int .i64 (spansOf (Q.drop (j + 1))))).drew b (tArr b ov (spansOf (Q.drop (j + 1))) n came most wait cache) Fh most (R.map tmOf) mst' msr' msk ov Or Q := hE5
      have o5 : Only [b.tp] w4 (w4.setCell ⟨b.tp, 5, none⟩ (.int .i64 (spansOf (Q.drop (j + 1))))).drew := (only_setTp w4 b.tp 5 _).drew
      have HE5 := Lib.hid hE5'
      have HO5 := Lib.hid (HO4.out.trans (o5.mono (fun x hx _ => by rw [List.mem_singleton] at hx; rw [hx]; exact foot_tp)))
      have HG5 := Lib.hid (HG4.out.only o5 (fun x hx hm => N9.out x hx (by rw [List.mem_singleton] at hm; rw [hm]; exact foot_tp)))
      have HT5 := Lib.hid (HT4.out.only o5 (fun x hx hm => Htv.out x hx (by rw [List.mem_singleton] at hm; rw [hm]; exact foot_tp)))
      clear hE5 hE5' o5 HE4 HO4 HG4 HT4 r5 f4 htp4 hwb4 hwr v2 vf
      generalize (w4.setCell ⟨b.tp, 5, none⟩ (.int .i64 (spansOf (Q.drop (j + 1))))).drew = w5 at *
      go_wp2_with fail
      have hrow5 := HE5.out.rows _ Hpm.out
      obtain ⟨v0, v1, v2, vf⟩ := span_row hrow5
      simp only at v0 v1 v2
      have hwb5 : pwb < w5.heap.size := lt_of_blk hrow5.blk
      have oW : Only [] w5 (w5.alloc (.cells #[.int .u64 hi, .int .u64 lo, .slice pa psps.length pc] 71)).drew := ((Only.refl [] _).alloc _).drew
      have hBn := heap_alloc_new w5 (.cells #[.int .u64 hi, .int .u64 lo, .slice pa psps.length pc] 71)
      obtain ⟨i0, z0, hi0, hz0, hz1, hz2, hz3⟩ := info_group
      obtain ⟨g, off, cap', w6, hap, hrm, o6, hg⟩ := run_append_is (P := Try.prog) (t := 66) (ty := 66) (a := ⟨w5.heap.size, 0, none⟩) (m := 1) (c := 1) (news := [[.int .u64 hi, .int .u64 lo, .slice pa psps.length pc]]) Try.underlying66 hi0 hz0 hz1 rfl hz3
        (HG5.out.only oW (by simp)) rfl (by simp) (by
          intro k v hk
          have hadd : (⟨w5.heap.size, 0, none⟩ : Addr).add k = ⟨w5.heap.size, k, none⟩ := by unfold Addr.add; split <;> simp_all
          rw [hadd]
          refine (cell_of_blk (w := w5.alloc _) hBn).trans ?_
          rw [show (#[Value.int .u64 hi, .int .u64 lo, .slice pa psps.length pc] : Array Value) = [Value.int .u64 hi, .int .u64 lo, .slice pa psps.length pc].toArray from rfl, List.getElem?_toArray]
          simpa using hk) (by simp [Value.oneCell']) (by omega) (by simp only [List.length_map, Htk.out, maxLen]; omega) (by
            rw [List.length_map, Htk.out]
            exact Nat.le_trans (Nat.mul_le_mul (show j + 1 ≤ 10001 by omega) hz2) (by omega))
      simp only [List.length_map, Htk.out] at hap
      have HAP := Lib.hid (And.intro hrm (And.intro o6 hg))
      have HW := Lib.hid oW
      clear hrm o6 hg hBn oW hi0 hz0 hz1 hz2 hz3 hrow5
      go_region
      obtain ⟨hrm, o6, hg⟩ := HAP.out
      have hw5w : w.heap.size ≤ w5.heap.size := HO5.out.size
      have o56 : Only (blockOf (.slice gp j gc)) w5 w6 := (HW.out.mono (by simp)).trans o6
      have hgn : g ∉ foot b Fh (blockOf ov) Q ∧ w.heap.size ≤ g ∧ g ∉ blockOf (.slice (some ⟨g2, off2, none⟩) D.length tc) := by
        rcases hg with h3 | h3
        · exact ⟨N9.out g h3, (Hgb.out g h3).1, (Hgb.out g h3).2.2⟩
        · have h4 := HW.out.size
          exact ⟨fun hm => by have := HE5.out.lt g hm; omega, by omega, fun hm => by have := HT5.out.lt g hm; omega⟩
      have hfin : ∃ (j1 : Nat) (gv : Value) (mst msk : List (Ent Tr)) (msr : List (Ent Int)), gv = Value.slice (some ⟨g, off, none⟩) (j + 1) cap' ∧ Value.int .i64 ((j : Int) + 1) = .int .i64 j1 ∧ j1 ≤ D.length ∧ SliceIs w6 71 3 ((D.take j1).map grp) gv ∧
          Env w6 b (tArr b ov (spansOf (Q.drop j1)) n came most wait cache) Fh most (R.map tmOf) mst msr msk ov Or Q ∧ MapsSay mst msr msk (Q.drop j1) Kn ∧ Only (foot b Fh (blockOf ov) Q) w w6 ∧ (∀ x ∈ blockOf gv, w.heap.size ≤ x ∧ x ∉ foot b Fh (blockOf ov) Q ∧ x ∉ blockOf (.slice (some ⟨g2, off2, none⟩) D.length tc)) ∧ SliceIs w6 30 2 ((D.map tmOf).map encT) (.slice (some ⟨g2, off2, none⟩) D.length tc) := by
        have htk1 : D.take (j + 1) = D.take j ++ [⟨pno, pdue, (hi, lo), psps, pwb, .slice pa psps.length pc⟩] := by
          rw [List.take_add_one, Hp.out]; rfl
        refine ⟨j + 1, _, mst', msk, msr', rfl, by go_num, by omega, ?_, HE5.out.only o56 (fun x hx hm => N9.out x hm hx), mapsay_tail (by have h3 := HMj.out; rw [HQd.out] at h3; exact h3) Hnd.out.1 Hnd.out.2 H4.out H3.out, HO5.out.trans' o56 (fun x hx hlt => absurd (Hgb.out x hx).1 (by omega)), fun x hx => ?_, HT5.out.only o56 (fun x hx hm => ?_)⟩
        · have h3 := SliceIs.row hrm
          rw [List.length_append, List.length_map, Htk.out, List.length_singleton] at h3
          rw [htk1, List.map_append]
          exact h3
        · simp only [blockOf, List.mem_singleton] at hx
          rw [hx]; exact ⟨hgn.2.1, hgn.1, hgn.2.2⟩
        · exact (Hgb.out x hm).2.2 hx
      have Hfin := Lib.hid hfin
      clear hfin hrm o6 hg HAP HW o56 hgn HE5 HO5 HG5 HT5 hap v0 v1 v2 vf hwb5
      go_wp2_with fail
      exact ⟨Hfin.out, by simp [intOf]; omega⟩
    · have g1 : decide (j < D.length) = false := decide_eq_false hlt
      have hjD : j = D.length := by omega
      have hdr : Q.drop j = R := by rw [hjD, ← HDR.out, List.drop_left]
      have htk : D.take j = D := by rw [hjD, List.take_length]
      rw [hdr] at hE hM
      rw [htk] at hg
      have hQR : ∀ q ∈ R, q ∈ Q := fun q hq => by rw [← HDR.out]; exact List.mem_append_right _ hq
      have hQD : ∀ q ∈ D, q ∈ Q := fun q hq => by rw [← HDR.out]; exact List.mem_append_left _ hq
      have hsub : R.Sublist Q := by rw [← hdr]; exact List.drop_sublist j Q
      have hsp : spansOf R ≤ spansOf Q := by
        rw [← HDR.out]; simp [spansOf]
      have hA := HA.out
      have hN := HN.out
      have Hres : Hid (SliceIs wr 71 3 (D.map grp) gv ∧ (∀ q ∈ D, RowOk wr q) ∧ TailIs wr b Fh ov most wait cache n came Kn Or R ∧ Only (foot b Fh (blockOf ov) Q) w wr ∧ ∀ x ∈ blockOf gv, w.heap.size ≤ x) := by
        refine ⟨hg, fun q hq => hE.rows q (hQD q hq), ⟨⟨mst, msr, msk, ⟨hE.blk, hE.heap, hE.mt, hE.mr, hE.mq, hE.ord, fun q hq => hE.rows q (hQR q hq)⟩, hM⟩,
          ⟨hA.nd, hA.fixF, hA.obF, fun q hq => hA.rows q (hQR q hq), fun k l p q hk hl hkl => ?_⟩,
          ⟨hN.nos.sublist (List.Sublist.map _ hsub), hN.trs.sublist (List.Sublist.map _ hsub), fun q hq => hN.lt q (hQR q hq), fun q hq => by have := hN.due q (hQR q hq); omega, fun q hq => hN.ne q (hQR q hq), by have := hN.now0; omega, h2, hN.wait0, hN.wait1, hN.came0, hN.came1, hN.most1, hN.cache0, by have := hN.full; omega⟩⟩, hO, fun x hx => (hgb x hx).1⟩
        rw [← hdr, List.getElem?_drop] at hk hl
        exact hA.sep (j + k) (j + l) p q hk hl (by omega)
      clear hE hM hO hg hgb hT hdr htk hQR hQD hsub hsp hA hN
      go_wp2_with fail
      go_ret2
      exact ⟨_, rfl, Hres.out⟩

end Go.Proofs.Ytcppnmogdmpdbaa
