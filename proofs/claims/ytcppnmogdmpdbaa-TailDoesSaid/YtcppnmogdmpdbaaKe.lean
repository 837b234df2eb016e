/- Offer of package tail, where nothing is taken: the buffer is full, or the trace was decided. -/
import Derived.Test.YtcppnmogdmpdbaaKd
set_option linter.unusedVariables false
set_option linter.unusedSimpArgs false
namespace Go.Proofs.Ytcppnmogdmpdbaa
open Go.RowKit Go.Mk Go.Hp
attribute [-go_sem] Builtin.append_

theorem foot_tp {b : TB} {Fh ob : List Nat} {Q : List Wr} : b.tp ∈ foot b Fh ob Q := mem_foot.2 (.inl (by simp [TB.fix]))

/-- Time has gone on. -/
theorem TailIs.later {w : World} {b : TB} {Fh : List Nat} {ov : Value} {most wait cache now came : Int} {Kn : Tr → Option Bool} {Or : List Tr} {Q : List Wr} {n : Int} {mst : List (Ent Tr)} {msr : List (Ent Int)} {msk : List (Ent Tr)}
    (hE : Env w b (tArr b ov (spansOf Q) n came most wait cache) Fh most (Q.map tmOf) mst msr msk ov Or Q) (hM : MapsSay mst msr msk Q Kn) (hA : Apart b Fh (blockOf ov) Q) (hN : NumsOk most wait cache now came Q) (h1 : now ≤ n) (h2 : n ≤ 1099511627776) :
    TailIs w b Fh ov most wait cache n came Kn Or Q :=
  ⟨⟨mst, msr, msk, hE, hM⟩, hA, ⟨hN.nos, hN.trs, hN.lt, fun q hq => by have := hN.due q hq; omega, hN.ne, by have := hN.now0; omega, h2, hN.wait0, hN.wait1, hN.came0, hN.came1, hN.most1, hN.cache0, hN.full⟩⟩

set_option maxRecDepth 100000 in
set_option maxHeartbeats 2000000 in
theorem offer_full {w : World} {b : TB} {Fh : List Nat} {ov : Value} {most wait cache now came : Int} {Kn : Tr → Option Bool} {Or : List Tr} {Q : List Wr} (h : TailIs w b Fh ov most wait cache now came Kn Or Q) (n : Int) (sp : Sp) (h1 : now ≤ n) (h2 : n ≤ 1099511627776)
    (hk : Kn sp.tr = none) (hfull : most ≤ (spansOf Q : Int)) :
    Calls Try.prog 31 #[.pointer (some ⟨b.tp, 0, none⟩), .int .i64 n, .agg sp.arr] w fun e w' => e = .returned (.tuple #[.int .u8 2, .int .u16 0]) ∧
      TailIs w' b Fh ov most wait cache n came Kn Or Q ∧ Only (foot b Fh (blockOf ov) Q) w w' := by
  obtain ⟨mst, msr, msk, hE, hM⟩ := h.env
  have hA := h.ap
  have hN := h.num
  have hl := hE.lt
  have htp : b.tp < w.heap.size := hl _ (mem_foot.2 (.inl (by simp [TB.fix])))
  obtain ⟨c3, hmk⟩ := hE.mq
  have hknown := hM.k sp.tr
  rw [hk] at hknown
  have HE := Lib.hid hE
  have HM := Lib.hid hM
  have HA := Lib.hid hA
  have HN := Lib.hid hN
  have H := Lib.hid h
  have Hl := Lib.hid hl
  obtain ⟨⟨hi, lo⟩, id, par, nm, st, en, bad, rv⟩ := sp
  clear hmk hE hM hA hN h hl hknown
  have o1 : Only [] w (w.alloc (.cells #[.int .u64 hi, .int .u64 lo, .int .u64 id, .int .u64 par, .string nm, .int .i64 st, .int .i64 en, .bool bad, .slice none 0 0, .int .u64 rv] 65)) := (Only.refl _ _).alloc _
  have B5 := Lib.hid (heap_alloc_new w (.cells #[.int .u64 hi, .int .u64 lo, .int .u64 id, .int .u64 par, .string nm, .int .i64 st, .int .i64 en, .bool bad, .slice none 0 0, .int .u64 rv] 65))
  have hE1 := HE.out.only o1 (by simp)
  have ct := turn_ok b.tp now n _ (by rw [cell_of_blk hE1.blk]; rfl) (frozen_of_blk hE1.blk) h1 h2
  have CT := Lib.hid ct
  have HE1 := Lib.hid hE1
  clear o1 ct hE1
  go_enter Try.func31, Try.ntmps31
  simp only [Sp.arr]
  go_wp2_with fail
  refine CT.out.mono ?_
  rintro e w2 ⟨rfl, hw2⟩
  have hE2 : Env w2 b (tArr b ov (spansOf Q) n came most wait cache) Fh most (Q.map tmOf) mst msr msk ov Or Q := by rw [hw2]; exact HE1.out.setTp HA.out 6 (.int .i64 n)
  have o2 : Only [b.tp] (w.alloc (.cells #[.int .u64 hi, .int .u64 lo, .int .u64 id, .int .u64 par, .string nm, .int .i64 st, .int .i64 en, .bool bad, .slice none 0 0, .int .u64 rv] 65)) w2 := by rw [hw2]; exact only_setTp _ _ _ _
  have B52 := o2.blk B5.out (by simp; omega)
  have O2 : Hid (Only (foot b Fh (blockOf ov) Q) w w2) := (((Only.refl [] _).alloc _).mono (by simp)).trans (o2.mono (fun x hx _ => by rw [List.mem_singleton] at hx; rw [hx]; exact mem_foot.2 (.inl (by simp [TB.fix]))))
  have hwl := O2.out.size
  have hb5l : w.heap.size < w2.heap.size := lt_of_blk B52
  generalize hb5 : w.heap.size = b5 at *
  have Hb5 := Lib.hid hb5
  have s0 : w2.cell? ⟨b5, 0, none⟩ = some (.int .u64 hi) := by rw [cell_of_blk B52]; rfl
  have s1 : w2.cell? ⟨b5, 1, none⟩ = some (.int .u64 lo) := by rw [cell_of_blk B52]; rfl
  clear hw2 CT HE1 o2 B5 HE hb5
  go_wp2_with fail
  have o3 : Only [] w2 (w2.alloc (.cells #[.int .u64 hi, .int .u64 lo] 116)) := (Only.refl _ _).alloc _
  have B9 := heap_alloc_new w2 (.cells #[.int .u64 hi, .int .u64 lo] 116)
  have hE3 := hE2.only o3 (by simp)
  have B53 := o3.blk B52 (by simp)
  have O3 := Lib.hid (O2.out.trans (o3.mono (by simp)))
  have hs3 : w2.heap.size < (w2.alloc (.cells #[.int .u64 hi, .int .u64 lo] 116)).heap.size := by simp
  generalize hb9 : w2.heap.size = b9 at *
  generalize w2.alloc (.cells #[.int .u64 hi, .int .u64 lo] 116) = w3 at *
  have k0 : w3.cell? ⟨b9, 0, none⟩ = some (.int .u64 hi) := by rw [cell_of_blk B9]; rfl
  have k1 : w3.cell? ⟨b9, 1, none⟩ = some (.int .u64 lo) := by rw [cell_of_blk B9]; rfl
  have r3 : w3.cell? ⟨b.tp, 3, none⟩ = some (.map (some b.mq)) := by rw [cell_of_blk hE3.blk]; rfl
  have htp3 : b.tp < w3.heap.size := lt_of_blk hE3.blk
  have hlk : ∀ m, (Instr.lookup 110 (.map (some b.mq)) (.agg #[.int .u64 hi, .int .u64 lo]) true).run Try.prog (w3.drewN m) = .ok (.tuple #[.bool false, .bool false]) (w3.drewN m) := fun m => by
    obtain ⟨c, hmk⟩ := hE3.mq
    have hg := HM.out.k (hi, lo)
    rw [hk] at hg
    have hz : (zeroValue 4).run Try.prog (w3.drewN m) = .ok (.bool false) (w3.drewN m) := Try.zeroValue4 _
    have h := run_lookup_ok (P := Try.prog) Try.underlying110 keyOk_trace hz (hmk.only ((Only.refl [] _).drewN m) (by simp)) (hi, lo)
    rw [hg] at h
    exact h
  have HE3 := Lib.hid hE3
  have HB := Lib.hid (And.intro B9 B53)
  clear hE2 hE3 B9 B53 B52 o3 O2 hk s0 s1 hs3
  go_quiet (fail)
  have o4 : Only [] w3 (w3.drewN nq) := (Only.refl [] _).drewN _
  have HE4 := Lib.hid (HE3.out.only o4 (by simp))
  have HB4 := Lib.hid (And.intro (o4.blk HB.out.1 (by simp)) (o4.blk HB.out.2 (by simp)))
  have O4 := Lib.hid (O3.out.trans (o4.mono (by simp)))
  clear HE3 HB O3 o4 hlk k0 k1 r3 htp3
  generalize w3.drewN nq = w4 at *
  go_wp2_with fail
  have r5 : w4.cell? ⟨b.tp, 5, none⟩ = some (.int .i64 (spansOf Q)) := by rw [cell_of_blk HE4.out.blk]; rfl
  have r8 : w4.cell? ⟨b.tp, 8, none⟩ = some (.int .i64 most) := by rw [cell_of_blk HE4.out.blk]; rfl
  have g1 : decide (most ≤ (spansOf Q : Int)) = true := decide_eq_true (by omega)
  have htp4 : b.tp < w4.heap.size := lt_of_blk HE4.out.blk
  go_quiet (fail)
  have o5 : Only [] w4 (w4.drewN nq) := (Only.refl [] _).drewN _
  have HE5 := Lib.hid (HE4.out.only o5 (by simp))
  have O5 := Lib.hid (O4.out.trans (o5.mono (by simp)))
  clear HE4 HB4 O4 o5 r5 r8 htp4
  generalize w4.drewN nq = w5 at *
  go_wp2_with fail
  go_ret2
  exact ⟨rfl, TailIs.later HE5.out HM.out HA.out HN.out h1 h2, O5.out⟩

set_option maxRecDepth 100000 in
set_option maxHeartbeats 2000000 in
theorem offer_known {w : World} {b : TB} {Fh : List Nat} {ov : Value} {most wait cache now came : Int} {Kn : Tr → Option Bool} {Or : List Tr} {Q : List Wr} (h : TailIs w b Fh ov most wait cache now came Kn Or Q) (n : Int) (sp : Sp) (h1 : now ≤ n) (h2 : n ≤ 1099511627776)
    (kp : Bool) (hk : Kn sp.tr = some kp) :
    Calls Try.prog 31 #[.pointer (some ⟨b.tp, 0, none⟩), .int .i64 n, .agg sp.arr] w fun e w' => e = .returned (.tuple #[.int .u8 (if kp then 4 else 3), .int .u16 0]) ∧
      TailIs w' b Fh ov most wait cache n came Kn Or Q ∧ Only (foot b Fh (blockOf ov) Q) w w' := by
  obtain ⟨mst, msr, msk, hE, hM⟩ := h.env
  have hA := h.ap
  have hN := h.num
  have hl := hE.lt
  have htp : b.tp < w.heap.size := hl _ (mem_foot.2 (.inl (by simp [TB.fix])))
  obtain ⟨c3, hmk⟩ := hE.mq
  have hknown := hM.k sp.tr
  rw [hk] at hknown
  have HE := Lib.hid hE
  have HM := Lib.hid hM
  have HA := Lib.hid hA
  have HN := Lib.hid hN
  have H := Lib.hid h
  have Hl := Lib.hid hl
  obtain ⟨⟨hi, lo⟩, id, par, nm, st, en, bad, rv⟩ := sp
  clear hmk hE hM hA hN h hl hknown
  have o1 : Only [] w (w.alloc (.cells #[.int .u64 hi, .int .u64 lo, .int .u64 id, .int .u64 par, .string nm, .int .i64 st, .int .i64 en, .bool bad, .slice none 0 0, .int .u64 rv] 65)) := (Only.refl _ _).alloc _
  have B5 := Lib.hid (heap_alloc_new w (.cells #[.int .u64 hi, .int .u64 lo, .int .u64 id, .int .u64 par, .string nm, .int .i64 st, .int .i64 en, .bool bad, .slice none 0 0, .int .u64 rv] 65))
  have hE1 := HE.out.only o1 (by simp)
  have ct := turn_ok b.tp now n _ (by rw [cell_of_blk hE1.blk]; rfl) (frozen_of_blk hE1.blk) h1 h2
  have CT := Lib.hid ct
  have HE1 := Lib.hid hE1
  clear o1 ct hE1
  go_enter Try.func31, Try.ntmps31
  simp only [Sp.arr]
  go_wp2_with fail
  refine CT.out.mono ?_
  rintro e w2 ⟨rfl, hw2⟩
  have hE2 : Env w2 b (tArr b ov (spansOf Q) n came most wait cache) Fh most (Q.map tmOf) mst msr msk ov Or Q := by rw [hw2]; exact HE1.out.setTp HA.out 6 (.int .i64 n)
  have o2 : Only [b.tp] (w.alloc (.cells #[.int .u64 hi, .int .u64 lo, .int .u64 id, .int .u64 par, .string nm, .int .i64 st, .int .i64 en, .bool bad, .slice none 0 0, .int .u64 rv] 65)) w2 := by rw [hw2]; exact only_setTp _ _ _ _
  have B52 := o2.blk B5.out (by simp; omega)
  have O2 : Hid (Only (foot b Fh (blockOf ov) Q) w w2) := (((Only.refl [] _).alloc _).mono (by simp)).trans (o2.mono (fun x hx _ => by rw [List.mem_singleton] at hx; rw [hx]; exact mem_foot.2 (.inl (by simp [TB.fix]))))
  have hwl := O2.out.size
  have hb5l : w.heap.size < w2.heap.size := lt_of_blk B52
  generalize hb5 : w.heap.size = b5 at *
  have Hb5 := Lib.hid hb5
  have s0 : w2.cell? ⟨b5, 0, none⟩ = some (.int .u64 hi) := by rw [cell_of_blk B52]; rfl
  have s1 : w2.cell? ⟨b5, 1, none⟩ = some (.int .u64 lo) := by rw [cell_of_blk B52]; rfl
  clear hw2 CT HE1 o2 B5 HE hb5
  go_wp2_with fail
  have o3 : Only [] w2 (w2.alloc (.cells #[.int .u64 hi, .int .u64 lo] 116)) := (Only.refl _ _).alloc _
  have B9 := heap_alloc_new w2 (.cells #[.int .u64 hi, .int .u64 lo] 116)
  have hE3 := hE2.only o3 (by simp)
  have B53 := o3.blk B52 (by simp)
  have O3 := Lib.hid (O2.out.trans (o3.mono (by simp)))
  have hs3 : w2.heap.size < (w2.alloc (.cells #[.int .u64 hi, .int .u64 lo] 116)).heap.size := by simp
  generalize hb9 : w2.heap.size = b9 at *
  generalize w2.alloc (.cells #[.int .u64 hi, .int .u64 lo] 116) = w3 at *
  have k0 : w3.cell? ⟨b9, 0, none⟩ = some (.int .u64 hi) := by rw [cell_of_blk B9]; rfl
  have k1 : w3.cell? ⟨b9, 1, none⟩ = some (.int .u64 lo) := by rw [cell_of_blk B9]; rfl
  have r3 : w3.cell? ⟨b.tp, 3, none⟩ = some (.map (some b.mq)) := by rw [cell_of_blk hE3.blk]; rfl
  have htp3 : b.tp < w3.heap.size := lt_of_blk hE3.blk
  have hlk : ∀ m, (Instr.lookup 110 (.map (some b.mq)) (.agg #[.int .u64 hi, .int .u64 lo]) true).run Try.prog (w3.drewN m) = .ok (.tuple #[.bool kp, .bool true]) (w3.drewN m) := fun m => by
    obtain ⟨c, hmk⟩ := hE3.mq
    have hg := HM.out.k (hi, lo)
    rw [hk] at hg
    have hz : (zeroValue 4).run Try.prog (w3.drewN m) = .ok (.bool false) (w3.drewN m) := Try.zeroValue4 _
    have h := run_lookup_ok (P := Try.prog) Try.underlying110 keyOk_trace hz (hmk.only ((Only.refl [] _).drewN m) (by simp)) (hi, lo)
    rw [hg] at h
    exact h
  have HE3 := Lib.hid hE3
  have HB := Lib.hid (And.intro B9 B53)
  clear hE2 hE3 B9 B53 B52 o3 O2 hk s0 s1 hs3
  go_quiet (fail)
  have o4 : Only [] w3 (w3.drewN nq) := (Only.refl [] _).drewN _
  have HE4 := Lib.hid (HE3.out.only o4 (by simp))
  have HB4 := Lib.hid (And.intro (o4.blk HB.out.1 (by simp)) (o4.blk HB.out.2 (by simp)))
  have O4 := Lib.hid (O3.out.trans (o4.mono (by simp)))
  clear HE3 HB O3 o4 hlk k0 k1 r3 htp3
  generalize w3.drewN nq = w4 at *
  cases kp with
  | true =>
    go_wp2_with fail
    go_ret2
    exact ⟨rfl, TailIs.later HE4.out HM.out HA.out HN.out h1 h2, O4.out⟩
  | false =>
    go_wp2_with fail
    go_ret2
    exact ⟨rfl, TailIs.later HE4.out HM.out HA.out HN.out h1 h2, O4.out⟩

end Go.Proofs.Ytcppnmogdmpdbaa
