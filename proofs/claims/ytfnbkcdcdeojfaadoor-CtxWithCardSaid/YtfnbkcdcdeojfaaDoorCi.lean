/- Package ctx, walked: Read. -/
import Derived.Test.YtfnbkcdcdeojfaaDoorCh
set_option linter.unusedVariables false
set_option linter.unusedSimpArgs false
namespace Go.Proofs.YtfnbkcdcdeojfaaDoor
open Go.RowKit Go.Mk Go.Cx Go.Shelf
attribute [-go_sem] Builtin.append_
attribute [local go_sem] Oper.semAt_some

theorem membs_nodup : ∀ {ps : List (List UInt8)} {seen : List (List UInt8)}, (∀ kv ∈ (membs seen ps).1, kv.1 ∉ seen) ∧ ((membs seen ps).1.map (·.1)).Nodup ∧ ∀ kv ∈ (membs seen ps).1, KVOk kv
  | [], seen => by simp [membs]
  | p :: ps, seen => by
    unfold membs
    cases hm : memOne seen p with
    | none => simp
    | some kv =>
      simp only
      obtain ⟨h1, h2, h4⟩ := @membs_nodup ps (kv.1 :: seen)
      obtain ⟨k1, k2, k3⟩ := memOne_some hm
      refine ⟨?_, ?_, ?_⟩
      · intro x hx
        rcases List.mem_cons.1 hx with rfl | hx
        · exact k2
        · exact fun hm => h1 x hx (List.mem_cons_of_mem _ hm)
      · rw [List.map_cons, List.nodup_cons]
        refine ⟨fun hm => ?_, h2⟩
        obtain ⟨x, hx, e⟩ := List.mem_map.1 hm
        exact h1 x hx (by rw [e]; simp)
      · intro x hx
        rcases List.mem_cons.1 hx with rfl | hx
        · exact k1
        · exact h4 x hx

/-- What Read has gathered: the marks of ot's value, if it has come. -/
def gathered (pre : List BV) (mk : Mk) : Prop := match (pre.map dataKV).find? (fun kv => kv.1 = ot) with
  | none => mk = Mk.none
  | some kv => marksL kv.2 = some mk

theorem members_walk (sb : Nat) (w : World) : CallsIn Fence.wide 3 Tryd.prog 23 #[.pointer (some ⟨sb, 0, none⟩)] w fun e w' => e = .returned (.func (.func 34) #[] #[.pointer (some ⟨w.heap.size, 0, none⟩)]) ∧ w' = w.alloc (.cells #[.pointer (some ⟨sb, 0, none⟩)] 55) := by
  refine callsIn_of_wp Tryd.func23 rfl trivial ?_ rfl
  simp only [Tryd.ntmps23, List.size_toArray, List.length_cons, List.length_nil, Nat.reduceAdd, Nat.reduceSub, Array.replicate_succ, Array.replicate_zero, List.push_toArray, List.append_toArray, List.nil_append, List.cons_append]
  gi_wp2
  go_ret
  exact ⟨rfl, rfl⟩

/-- What holds between two rounds of Read's loop. -/
def JRead (ob : Nat) (W1 : World) (pre : List BV) (X : List Nat) (W : World) : Prop :=
  Only [ob] W1 W ∧ (∃ mk, gathered pre mk ∧ W.heap[ob]? = some (.cells (mkArr mk) 29 (0, 0))) ∧ ∀ x ∈ X, W1.heap.size ≤ x ∧ x < W.heap.size
def JxRead (ob r2 r3 l : Nat) (W1 : World) (r : Loop) (s : ByteArray) (W : World) : Prop :=
  Only [ob, r2, r3, l] W1 W ∧ W.heap[l]? = some (.loop { r with state := .done, pending := some .ret }) ∧ W.heap[r2]? = some (.cells (mkArr Mk.none) 29 (0, 0)) ∧ W.heap[r3]? = some (.cells #[.int .u16 31] 25 (0, 0)) ∧
    ∃ kv, (membs [] (partsC 44 s.data.toList)).1.find? (fun kv => kv.1 = ot) = some kv ∧ marksL kv.2 = none

theorem jread_ok {ob sb bx : Nat} {W1 : World} {s : ByteArray} {m : Int} (hob : ob < W1.heap.size) (hbx : W1.heap[bx]? = some (.cells #[.pointer (some ⟨sb, 0, none⟩)] 55 (0, 0))) (hsb : W1.heap[sb]? = some (.cells #[.string s, .bool false] 57 (0, 0)))
    (hm : W1.cell? ⟨0, 0, none⟩ = some (.int .i64 m)) (h1 : bx ≠ ob) (h2 : sb ≠ ob) (h3 : 0 ≠ ob) : ItOk (JRead ob W1) sb bx s m where
  reads := fun pre X W h => by
    obtain ⟨h4, h5, h6⟩ := h
    have hl1 := lt_of_blk hbx
    have hl2 := lt_of_blk hsb
    have hl3 := lt_of_cell hm
    exact ⟨h4.blk hbx (by simpa using h1), h4.blk hsb (by simpa using h2), h4.cell hm (by simpa using h3), fun hx => by have := h6 _ hx; omega, fun hx => by have := h6 _ hx; omega, fun hx => by have := h6 _ hx; omega⟩
  swap := fun pre X X' A B h hAB hX hX' => by
    obtain ⟨h4, ⟨mk, h5, h7⟩, h6⟩ := h
    refine ⟨h4.trans' hAB (fun x hx hlt => by have := h6 x hx; omega), ⟨mk, h5, hAB.blk h7 (fun hx => by have := h6 _ hx; omega)⟩, fun x hx => ?_⟩
    rcases hX x hx with h | h
    · exact ⟨(h6 x h).1, hX' x hx⟩
    · exact ⟨Nat.le_trans h4.size h, hX' x hx⟩

theorem gathered_no {pre : List BV} {x : BV} {mk : Mk} (h : gathered pre mk) (hx : x.1.data.toList ≠ ot) : gathered (pre ++ [x]) mk := by
  unfold gathered at h ⊢
  rw [List.map_append, List.find?_append]
  have : (List.map dataKV [x]).find? (fun kv => decide (kv.1 = ot)) = none := by
    rw [List.find?_eq_none]
    intro kv hkv
    simp only [List.map_cons, List.map_nil, List.mem_singleton] at hkv
    subst hkv
    simp only [dataKV, decide_eq_true_eq, hx, not_false_eq_true]
  rw [this, Option.or_none]
  exact h
theorem find_first {s : ByteArray} {pre : List BV} {x : BV} (hp : (pre ++ [x]).map dataKV <+: (membs [] (partsC 44 s.data.toList)).1) (hx : x.1.data.toList = ot) :
    (pre.map dataKV).find? (fun kv => decide (kv.1 = ot)) = none ∧ (membs [] (partsC 44 s.data.toList)).1.find? (fun kv => decide (kv.1 = ot)) = some (dataKV x) := by
  obtain ⟨t, ht⟩ := hp
  have hn := (@membs_nodup (partsC 44 s.data.toList) []).2.1
  rw [← ht, List.map_append, List.map_append] at hn
  have h1 : (pre.map dataKV).find? (fun kv => decide (kv.1 = ot)) = none := by
    rw [List.find?_eq_none]
    intro kv hkv
    simp only [decide_eq_true_eq]
    intro he
    rw [List.map_append, List.append_assoc, List.nodup_append] at hn
    refine hn.2.2 kv.1 (List.mem_map.2 ⟨kv, hkv, rfl⟩) x.1.data.toList (by simp [dataKV]) (by rw [he, hx])
  refine ⟨h1, ?_⟩
  rw [← ht, List.map_append, List.append_assoc, List.find?_append, h1, Option.none_or]
  simp [dataKV, hx]
theorem gathered_ot {s : ByteArray} {pre : List BV} {x : BV} {mk : Mk} (hp : (pre ++ [x]).map dataKV <+: (membs [] (partsC 44 s.data.toList)).1) (hx : x.1.data.toList = ot) (hm : marksL x.2.data.toList = some mk) : gathered (pre ++ [x]) mk := by
  unfold gathered
  rw [List.map_append, List.find?_append, (find_first hp hx).1, Option.none_or]
  simp [dataKV, hx, hm]
theorem val_size {s : ByteArray} {pre : List BV} {x : BV} (hp : (pre ++ [x]).map dataKV <+: (membs [] (partsC 44 s.data.toList)).1) : x.2.size ≤ 200 ∧ x.1.size ≤ 60 := by
  obtain ⟨t, ht⟩ := hp
  have h1 := (@membs_nodup (partsC 44 s.data.toList) []).2.2 (dataKV x) (by rw [← ht]; simp)
  have h2 := h1.val
  have h3 := h1.key
  unfold valOk at h2
  unfold keyOk at h3
  simp only [Bool.and_eq_true, decide_eq_true_eq, dataKV, len_data] at h2 h3
  exact ⟨h2.2.2, h3.2.2⟩

theorem jread_next {ob l : Nat} {W1 W W3 : World} {pre pre' : List BV} {X : List Nat} {mk' : Mk} (hJ : JRead ob W1 pre X W) (hl : l < W1.heap.size) (hob : ob < W1.heap.size) (h : Only [l, ob] W W3) (hl3 : W3.heap[l]? = W1.heap[l]?)
    (hg : gathered pre' mk') (hb : W3.heap[ob]? = some (.cells (mkArr mk') 29 (0, 0))) : JRead ob W1 pre' X W3 ∧ W.heap.size ≤ W3.heap.size ∧ ∀ k ∈ X, W3.heap[k]? = W.heap[k]? := by
  obtain ⟨h1, h2, h3⟩ := hJ
  refine ⟨⟨((h1.mono (S' := [l, ob]) (fun k hk _ => by simp only [List.mem_singleton] at hk; simp [hk])).trans h).back hl3, ⟨mk', hg, hb⟩, fun x hx => ⟨(h3 x hx).1, h.lt (h3 x hx).2⟩⟩, h.size, fun k hk => h.block k (h3 k hk).2 (fun hm => ?_)⟩
  have := (h3 k hk).1
  simp only [List.mem_cons, List.not_mem_nil, or_false] at hm
  omega

set_option maxRecDepth 100000 in
set_option maxHeartbeats 8000000 in
theorem read_walk (s : ByteArray) (m : Int) (w : World) (hs : s.size ≤ 100000) (hm : w.cell? ⟨0, 0, none⟩ = some (.int .i64 m)) :
    Calls Tryd.prog 19 #[.string s] w fun e w' => e = .returned (.tuple #[.agg (mkArr (readL s.data.toList).1), .int .u16 ((readL s.data.toList).2 : Nat)]) ∧ Only [] w w' := by
  refine (callsIn_wide (n := 4)).1 ?_
  refine callsIn_of_wp_marks Tryd.func19 rfl trivial ?_ rfl
  simp only [Tryd.ntmps19, List.size_toArray, List.length_cons, List.length_nil, Nat.reduceAdd, Nat.reduceSub, Array.replicate_succ, Array.replicate_zero, List.push_toArray, List.append_toArray, List.nil_append, List.cons_append]
  by_cases hlong : 512 < s.size
  · have hr : readL s.data.toList = (Mk.none, 3) := by
      unfold readL
      rw [if_pos (.inl (by rw [len_data]; exact hlong))]
    have Hr := Lib.hid hr
    have hg : decide ((512 : Int) < s.size) = true := decide_eq_true (by omega)
    clear hr
    gi_wp2_with fail
    refine ⟨trivial, ?_⟩
    gi_wp2_with fail
    refine ⟨.tuple #[.agg (mkArr Mk.none), .int .u16 3], by simp [results, Tryd.results19, go_sem, mkArr, Mk.none], by rw [Hr.out]; rfl, ((Only.refl _ _).alloc _).alloc _⟩
  · have hg : decide ((512 : Int) < s.size) = false := decide_eq_false (by omega)
    have oa := ((Only.refl [] w).alloc (.cells #[.bool false, .int .u64 0, .bool false, .int .u64 0] 29)).alloc (.cells #[.int .u16 0] 25)
    have C := Lib.hid (parts_walk s 44 m _ (by omega) (oa.cell hm (by simp)))
    have Oa := Lib.hid oa
    have Hm := Lib.hid hm
    clear oa hm
    gi_wp2_with fail
    refine ⟨trivial, (callsIn_wide.2 C.out).mono ?_⟩
    rintro e w2 ⟨p, l', rfl, h1, h2, h3, h4, h5⟩
    have hr2 := heap_alloc_new w (.cells #[.bool false, .int .u64 0, .bool false, .int .u64 0] 29)
    have hr2a := ((Only.refl [] _).alloc (.cells #[.int .u16 0] 25)).blk hr2 (by simp)
    have hr3 := heap_alloc_new (w.alloc (.cells #[.bool false, .int .u64 0, .bool false, .int .u64 0] 29)) (.cells #[.int .u16 0] 25)
    rw [World.size_alloc] at hr3
    have Hr2 := Lib.hid (h4.blk hr2a (by simp))
    have Hr3 := Lib.hid (h4.blk hr3 (by simp))
    have O2 := Lib.hid (Oa.out.trans h4)
    have HP := Lib.hid h1
    generalize hA : w.heap.size = r2 at *
    generalize hB : r2 + 1 = r3 at *
    have HA := Lib.hid (And.intro hA hB)
    have hpl : (partsC 44 s.data.toList).length = l'.length := by rw [← h1]; unfold dataL; rw [List.length_map]
    have Hpl := Lib.hid hpl
    clear h1 h2 h3 h4 h5 hr2 hr2a hr3 C Oa hA hB hpl
    have c2 : w2.cell? ⟨r2, 0, none⟩ = some (.bool false) := by rw [cell_of_blk Hr2.out]; rfl
    have c21 : w2.cell? ⟨r2, 1, none⟩ = some (.int .u64 0) := by rw [cell_of_blk Hr2.out]; rfl
    have c22 : w2.cell? ⟨r2, 2, none⟩ = some (.bool false) := by rw [cell_of_blk Hr2.out]; rfl
    have c23 : w2.cell? ⟨r2, 3, none⟩ = some (.int .u64 0) := by rw [cell_of_blk Hr2.out]; rfl
    have c3 : w2.cell? ⟨r3, 0, none⟩ = some (.int .u16 0) := by rw [cell_of_blk Hr3.out]; rfl
    have fz : ∀ j, w2.frozen? ⟨r2, j, none⟩ = false := fun j => frozen_of_blk Hr2.out
    have f20 := fz 0
    have f21 := fz 1
    have f22 := fz 2
    have f23 := fz 3
    have f3 : w2.frozen? ⟨r3, 0, none⟩ = false := frozen_of_blk Hr3.out
    have l2 := lt_of_blk Hr2.out
    have l3 := lt_of_blk Hr3.out
    have hne : ¬ r2 = r3 := by have := HA.out.2; omega
    have hne' : ¬ r3 = r2 := fun h => hne h.symm
    clear fz
    by_cases hmany : 32 < l'.length
    · have hg2 : decide ((32 : Int) < l'.length) = true := decide_eq_true (by omega)
      have hr : readL s.data.toList = (Mk.none, 3) := by
        unfold readL
        rw [if_pos (.inr (by rw [Hpl.out]; exact hmany))]
      have Hr := Lib.hid hr
      clear hr
      gi_wp2_with fail
      refine ⟨.tuple #[.agg (mkArr Mk.none), .int .u16 3], by simp [results, Tryd.results19, go_sem, mkArr, Mk.none, c2, c21, c22, c23, c3, hne, hne'], by rw [Hr.out]; rfl, O2.out.trans' (S' := [r2, r3]) (((((Only.refl _ _).setCell (.inl (by simp)) _).setCell (.inl (by simp)) _).setCell (.inl (by simp)) _).setCell (.inl (by simp)) _ |>.setCell (.inl (by simp)) _) (fun x hx hlt => ?_)⟩
      simp only [List.mem_cons, List.not_mem_nil, or_false] at hx
      obtain ⟨e1, e2⟩ := HA.out
      omega
    · have hg2 : decide ((32 : Int) < l'.length) = false := decide_eq_false (by omega)
      gi_wp2_with fail
      obtain ⟨w4, hw4⟩ : ∃ w4, w4 = ((w2.alloc (.cells #[.string s, .bool false] 57)).alloc (.cells #[.bool false, .int .u64 0, .bool false, .int .u64 0] 29)) := ⟨_, rfl⟩
      have o4 : Only [] w2 w4 := by rw [hw4]; exact ((Only.refl _ _).alloc _).alloc _
      have hsb : w4.heap[w2.heap.size]? = some (.cells #[.string s, .bool false] 57 (0, 0)) := by
        rw [hw4]; exact ((Only.refl [] _).alloc _).blk (heap_alloc_new _ _) (by simp)
      have hob : w4.heap[w2.heap.size + 1]? = some (.cells #[.bool false, .int .u64 0, .bool false, .int .u64 0] 29 (0, 0)) := by
        rw [hw4]; have := heap_alloc_new (w2.alloc (.cells #[.string s, .bool false] 57)) (.cells #[.bool false, .int .u64 0, .bool false, .int .u64 0] 29); rwa [World.size_alloc] at this
      have hsz4 : w4.heap.size = w2.heap.size + 2 := by rw [hw4]; simp
      rw [← hw4]
      have O4 := Lib.hid (O2.out.trans o4)
      have Hr2 := Lib.hid (o4.blk Hr2.out (by simp))
      have Hr3 := Lib.hid (o4.blk Hr3.out (by simp))
      have H4 := Lib.hid (And.intro hsb (And.intro hob hsz4))
      have L2 := Lib.hid (And.intro l2 l3)
      have CM := Lib.hid (members_walk w2.heap.size w4)
      generalize hS : w2.heap.size = sb at *
      generalize hOb : sb + 1 = ob at *
      have HS := Lib.hid (And.intro hS hOb)
      clear hw4 o4 hsb hob hsz4 c2 c21 c22 c23 c3 f20 f21 f22 f23 f3 l2 l3 hS hOb O2
      refine ⟨trivial, CM.out.mono ?_⟩
      rintro e w5 ⟨rfl, hw5⟩
      have o5 : Only [] w4 w5 := by rw [hw5]; exact (Only.refl _ _).alloc _
      have hbx : w5.heap[w4.heap.size]? = some (.cells #[.pointer (some ⟨sb, 0, none⟩)] 55 (0, 0)) := by rw [hw5]; exact heap_alloc_new _ _
      have O5 := Lib.hid (O4.out.trans o5)
      have Hr2 := Lib.hid (o5.blk Hr2.out (by simp))
      have Hr3 := Lib.hid (o5.blk Hr3.out (by simp))
      have Hsb := Lib.hid (o5.blk H4.out.1 (by simp))
      have Hob := Lib.hid (o5.blk H4.out.2.1 (by simp))
      have Hbx := Lib.hid hbx
      generalize hbxn : w4.heap.size = bx at *
      have HBx := Lib.hid hbxn
      clear hw5 o5 hbx hbxn CM
      gi_wp2_with fail
      have hbl := lt_of_blk Hbx.out
      refine rangeFunc_go rfl rfl rfl trivial (enters_of Tryd.func34 (by kernel_rfl) rfl) ?_
      intro fn _ r hr
      obtain ⟨W1, hW1⟩ : ∃ W1, W1 = (w5.alloc (.deferred (some []))).alloc (.loop r) := ⟨_, rfl⟩
      have o1 : Only [] w5 W1 := by rw [hW1]; exact ((Only.refl _ _).alloc _).alloc _
      have hD : W1.heap[w5.heap.size]? = some (.deferred (some [])) := by
        rw [hW1]; exact ((Only.refl [] _).alloc _).blk (heap_alloc_new _ _) (by simp)
      have hL : W1.heap[w5.heap.size + 1]? = some (.loop r) := by
        rw [hW1]; have := heap_alloc_new (w5.alloc (.deferred (some []))) (.loop r); rwa [World.size_alloc] at this
      have hsz1 : W1.heap.size = w5.heap.size + 2 := by rw [hW1]; simp
      rw [← hW1]
      clear hW1
      have hlt5 : sb < w5.heap.size ∧ ob < w5.heap.size ∧ bx < w5.heap.size ∧ r2 < w5.heap.size ∧ r3 < w5.heap.size := ⟨lt_of_blk Hsb.out, lt_of_blk Hob.out, lt_of_blk Hbx.out, lt_of_blk Hr2.out, lt_of_blk Hr3.out⟩
      have hne5 : r2 < r3 ∧ r3 < sb ∧ sb < ob ∧ ob < bx := by
        have e1 := HA.out
        have e2 := HS.out
        have e3 := HBx.out
        have e4 := H4.out.2.2
        have e5 := L2.out
        omega
      have hr20 : 0 < r2 := by
        have := HA.out.1
        have := lt_of_cell Hm.out
        omega
      have hm1 : W1.cell? ⟨0, 0, none⟩ = some (.int .i64 m) := o1.cell (O5.out.cell Hm.out (by simp)) (by simp)
      have IT := Lib.hid (jread_ok (ob := ob) (W1 := W1) (s := s) (by omega) (o1.blk Hbx.out (by simp)) (o1.blk Hsb.out (by simp)) hm1 (by omega) (by omega) (by omega))
      have H0 : Hid (JRead ob W1 [] [] W1) := Lib.hid ⟨Only.refl _ _, ⟨Mk.none, rfl, o1.blk Hob.out (by simp)⟩, by simp⟩
      have HL := Lib.hid (And.intro hD (And.intro hL hsz1))
      have O1 := Lib.hid (O5.out.trans o1)
      have Hr2 := Lib.hid (o1.blk Hr2.out (by simp))
      have Hr3 := Lib.hid (o1.blk Hr3.out (by simp))
      have Hsb := Lib.hid (o1.blk Hsb.out (by simp))
      have Hlt := Lib.hid (And.intro hlt5 (And.intro hne5 hr20))
      have Hr := Lib.hid hr
      generalize hDn : w5.heap.size = D at *
      generalize hLn : D + 1 = l at *
      have HDL := Lib.hid hLn
      clear o1 hD hL hsz1 hlt5 hne5 hm1 hr hDn hLn hbl hr20 Hbx Hob O4 O5 L2 H4
      refine (members_it 3 l sb bx s m hs (JRead ob W1) (JxRead ob r2 r3 l W1 r s) IT.out ?yield W1 H0.out).mono ?behind
      case yield =>
        intro pre x X W hJ hp
        obtain ⟨g1, ⟨mk, g2, g3⟩, g4⟩ := hJ
        have hl := g1.blk HL.out.2.1 (by have := Hlt.out; have := HDL.out; simp; omega)
        have hvs := val_size hp
        have CK := Lib.hid (fun W' h0 => marks_walk x.2 m W' (by omega) h0)
        have Hp := Lib.hid hp
        have hmW : W.cell? ⟨0, 0, none⟩ = some (.int .i64 m) := (IT.out.reads pre X W ⟨g1, ⟨mk, g2, g3⟩, g4⟩).2.2.1
        have ea := congrArg Loop.assign Hr.out
        have eb := congrArg Loop.body Hr.out
        have et := congrArg Loop.tmps Hr.out
        have ep := congrArg Loop.params Hr.out
        dsimp only at ea eb et ep
        have Eb := Lib.hid eb
        have Ea := Lib.hid ea
        have Et := Lib.hid et
        have Ep := Lib.hid ep
        clear ea eb et ep
        apply yield_go2 (r := r) hl (by rw [Hr.out]) (by rw [Hr.out]; rfl) trivial
        case hassign =>
          intro K hK
          rw [Ea.out, Et.out, Ep.out]
          gi_wp2_with fail
          exact hK
        case hbody =>
          have o2 := only_putObj W l (.loop { r with state := .busy })
          have hl2 := putObj_same (o' := .loop { r with state := .busy }) hl
          generalize W.putObj l (.loop { r with state := .busy }) = W2 at *
          rw [Eb.out]
          have hb1 : l ≠ ob ∧ l ≠ 0 ∧ r2 ≠ r3 ∧ r2 ≠ ob ∧ r3 ≠ ob ∧ r2 ≠ l ∧ r3 ≠ l := by
            have := Hlt.out
            have := HDL.out
            omega
          have g5 : W2.heap[ob]? = some (.cells (mkArr mk) 29 (0, 0)) := o2.blk g3 (by simp; omega)
          have hmW2 := o2.cell hmW (by simp; omega)
          have HG := Lib.hid (And.intro g1 (And.intro g2 (And.intro g3 (And.intro g4 g5))))
          have O2 := Lib.hid o2
          have Hl2 := Lib.hid hl2
          have Hl := Lib.hid hl
          have Hvs := Lib.hid hvs
          have CK := Lib.hid (CK.out W2 hmW2)
          have Hb1 := Lib.hid hb1
          clear g1 g2 g3 g4 g5 o2 hl2 hl hvs hmW hmW2 hp hb1
          have her : ({ r with state := .ready, pending := none } : Loop) = r := by rw [Hr.out]
          have Her := Lib.hid her
          have HJ : Hid (JRead ob W1 pre X W) := Lib.hid ⟨HG.out.1, ⟨mk, HG.out.2.1, HG.out.2.2.1⟩, HG.out.2.2.2.1⟩
          have HLt : Hid (l < W1.heap.size ∧ ob < W1.heap.size) := Lib.hid ⟨lt_of_blk HL.out.2.1, by have := HL.out.2.2; have := Hlt.out; omega⟩
          clear her Hr Ea Eb Et Ep IT H0 O1 HDL HP Hpl Hm HA HS HBx Hlt Hsb
          by_cases hx : x.1.data.toList = ot
          · have b1 : (x.1.toList == [111, 116]) = true := by rw [Lib.toList_data, hx]; rfl
            have Hx := Lib.hid hx
            clear hx
            gi_wp2_with fail
            refine ⟨trivial, (CallsIn.inRound l (callsIn_wide.2 CK.out)).mono ?_⟩
            rintro e W3 ⟨ok, mk2, rfl, ht, hf, o3⟩
            have Ht := Lib.hid ht
            have Hf := Lib.hid hf
            have O3 := Lib.hid o3
            clear ht hf o3 CK
            have Hob3 := Lib.hid (O3.out.blk HG.out.2.2.2.2 (by simp))
            have Hl3 := Lib.hid (O3.out.blk Hl2.out (by simp))
            have O23 : Hid (Only [l] W W3) := Lib.hid (O2.out.trans (O3.out.mono (by simp)))
            have Hr23 := Lib.hid (O23.out.blk (HG.out.1.blk Hr2.out (by simpa using Hb1.out.2.2.2.1)) (by simpa using Hb1.out.2.2.2.2.2.1))
            have Hr33 := Lib.hid (O23.out.blk (HG.out.1.blk Hr3.out (by simpa using Hb1.out.2.2.2.2.1)) (by simpa using Hb1.out.2.2.2.2.2.2))
            obtain ⟨gT, gt, gR, gr⟩ := mk
            obtain ⟨hT, mt, hR, mr⟩ := mk2
            simp only [mkArr]
            -- the marks' own block, filled
            obtain ⟨W5, hW5⟩ : ∃ W5, W5 = W3.alloc (.cells #[.bool hT, .int .u64 mt, .bool hR, .int .u64 mr] 29) := ⟨_, rfl⟩
            have hb8 : W5.heap[W3.heap.size]? = some (.cells #[.bool hT, .int .u64 mt, .bool hR, .int .u64 mr] 29 (0, 0)) := by
              rw [hW5]
              exact heap_alloc_new _ _
            have o5 : Only [] W3 W5 := by
              rw [hW5]
              exact (Only.refl [] W3).alloc _
            have Hb8 := Lib.hid hb8
            have Hob5 := Lib.hid (o5.blk Hob3.out (by simp))
            have Hl5 := Lib.hid (o5.blk Hl3.out (by simp))
            have Hr25 := Lib.hid (o5.blk Hr23.out (by simp))
            have Hr35 := Lib.hid (o5.blk Hr33.out (by simp))
            have O25 : Hid (Only [l] W W5) := Lib.hid (O23.out.trans (o5.mono (by simp)))
            subst hW5
            clear hb8 o5 O2 O23
            cases ok with
            | true =>
              have hmk := Ht.out rfl
              have Hmk := Lib.hid hmk
              clear hmk Ht Hf
              gi_wp2_with (first
                | (show wpListIn _ _ _ _ _ ({ dst := some 37, op := Op.load 29 (Operand.tmp 8), type := _, pos := _, after := _, guard := _ } :: _) _ _; go_must (refine wpListIn_load_row rfl 29 (.tmp 8) rfl W3.heap.size rfl _ _ _ _ Hb8.out Tryd.underlying29 rfl (by kernel_rfl) ?_; refine wpListIn_store_row rfl 29 (.tmp 5) (.tmp 37) rfl ob #[.bool hT, .int .u64 mt, .bool hR, .int .u64 mr] rfl rfl _ _ Hob5.out (by kernel_rfl) rfl (by simp [Value.oneCell']) ?_)))
              have hob6 := setRow_heap _ ob _ #[.bool hT, .int .u64 mt, .bool hR, .int .u64 mr] _ _ Hob5.out
              have o6 := only_setRow (w := W3.alloc (.cells #[.bool hT, .int .u64 mt, .bool hR, .int .u64 mr] 29)) ob #[.bool hT, .int .u64 mt, .bool hR, .int .u64 mr]
              have hl6 := o6.blk Hl5.out (by simpa using Hb1.out.1)
              refine ⟨hl6, .inl ⟨rfl, ?_⟩⟩
              rw [Her.out]
              exact jread_next HJ.out HLt.out.1 HLt.out.2 (((O25.out.mono (fun k hk _ => by simp only [List.mem_singleton] at hk; simp [hk])).trans (o6.mono (fun k hk _ => by simp only [List.mem_singleton] at hk; simp [hk]))).putObj (.inl (by simp)) _) ((putObj_same hl6).trans HL.out.2.1.symm) (gathered_ot Hp.out Hx.out Hmk.out) (putObj_other hob6 (fun e => Hb1.out.1 e.symm))
            | false =>
              have hmk := Hf.out rfl
              have Hmk := Lib.hid hmk
              obtain ⟨W6, hW6⟩ : ∃ W6, (W3.alloc (.cells #[.bool hT, .int .u64 mt, .bool hR, .int .u64 mr] 29)).setRow r2 #[.bool false, .int .u64 0, .bool false, .int .u64 0] = W6 := ⟨_, rfl⟩
              have o6 : Only [r2] (W3.alloc (.cells #[.bool hT, .int .u64 mt, .bool hR, .int .u64 mr] 29)) W6 := by rw [← hW6]; exact only_setRow _ _
              have Hr26 : Hid (W6.heap[r2]? = some (.cells #[.bool false, .int .u64 0, .bool false, .int .u64 0] 29 (0, 0))) := Lib.hid (by rw [← hW6]; exact setRow_heap _ _ _ _ _ _ Hr25.out)
              have Hr36 := Lib.hid (o6.blk Hr35.out (by simpa using fun h => Hb1.out.2.2.1 h.symm))
              have Hl6 := Lib.hid (o6.blk Hl5.out (by simpa using fun h => Hb1.out.2.2.2.2.2.1 h.symm))
              have O26 := Lib.hid ((O25.out.mono (S' := [l, r2]) (fun k hk _ => by simp only [List.mem_singleton] at hk; simp [hk])).trans (o6.mono (fun k hk _ => by simp only [List.mem_singleton] at hk; simp [hk])))
              have c4 : W6.cell? ⟨r3, 0, none⟩ = some (.int .u16 0) := by rw [cell_of_blk Hr36.out]; rfl
              have f30 : W6.frozen? ⟨r3, 0, none⟩ = false := frozen_of_blk Hr36.out
              have l3 := lt_of_blk Hr36.out
              clear hmk Ht Hf o6
              gi_wp2_with (first
                | (show wpListIn _ _ _ _ _ ({ dst := some 36, op := Op.build 29 #[], type := _, pos := _, after := _, guard := _ } :: _) _ _; go_must (refine wpListIn_build rfl 29 #[] rfl #[.bool false, .int .u64 0, .bool false, .int .u64 0] (by kernel_rfl) ?_; refine wpListIn_store_row rfl 29 (.tmp 2) (.tmp 36) rfl r2 #[.bool false, .int .u64 0, .bool false, .int .u64 0] rfl rfl _ _ Hr25.out (by kernel_rfl) rfl (by simp [Value.oneCell']) ?_; rw [hW6])))
              have o7 := (Only.refl [r3] W6).setCell (p := ⟨r3, 0, none⟩) (.inl (by simp)) (.int .u16 31)
              have hl7 := o7.blk Hl6.out (by simpa using fun h => Hb1.out.2.2.2.2.2.2 h.symm)
              have hr37 := setCell_blk (i := 0) (v := .int .u16 31) Hr36.out
              have hr27 := o7.blk Hr26.out (by simpa using Hb1.out.2.2.1)
              refine ⟨hl7, .inr ⟨rfl, ?_⟩⟩
              refine ⟨?_, putObj_same hl7, putObj_other hr27 Hb1.out.2.2.2.2.2.1, putObj_other hr37 Hb1.out.2.2.2.2.2.2, dataKV x, (find_first Hp.out Hx.out).2, Hmk.out⟩
              exact (((HJ.out.1.mono (S' := [ob, r2, r3, l]) (fun k hk _ => by simp only [List.mem_singleton] at hk; simp [hk])).trans (O26.out.mono (fun k hk _ => by simp only [List.mem_cons, List.not_mem_nil, or_false] at hk; simp; omega))).trans (o7.mono (fun k hk _ => by simp only [List.mem_singleton] at hk; simp [hk]))).putObj (.inl (by simp)) _
          · have b1 : (x.1.toList == [111, 116]) = false := by
              rw [Lib.toList_data]
              simpa using (show x.1.data.toList ≠ [111, 116] from hx)
            have Hx := Lib.hid hx
            clear hx
            gi_wp2_with fail
            refine ⟨Hl2.out, .inl ⟨rfl, ?_⟩⟩
            rw [Her.out]
            exact jread_next HJ.out HLt.out.1 HLt.out.2 ((O2.out.mono (fun k hk _ => by simp only [List.mem_singleton] at hk; simp [hk])).putObj (.inl (by simp)) _) ((putObj_same Hl2.out).trans HL.out.2.1.symm) (gathered_no HG.out.2.1 Hx.out) (putObj_other HG.out.2.2.2.2 (fun e => Hb1.out.1 e.symm))
      case behind =>
        rintro e W ⟨⟨v, rfl⟩, (⟨hb, xs, X, hxs, hJ⟩ | ⟨hb, xs, X, W'', hxs, hJ, rfl⟩ | hX)⟩
        · have hbk : (4 : Nat) = 4 := rfl
          obtain ⟨g1, ⟨mk, g2, g3⟩, g4⟩ := hJ
          have hl := g1.blk HL.out.2.1 (by have := Hlt.out; have := HDL.out; simp; omega)
          have es := congrArg Loop.state Hr.out
          have ep := congrArg Loop.pending Hr.out
          dsimp only at es ep
          refine ⟨v, r, rfl, hl, (fun h => by rw [es] at h; cases h), (fun _ => ?_), (fun c h => by rw [ep] at h; cases h)⟩
          clear es ep
          have oF := (g1.mono (S' := [l, ob]) (fun k hk _ => by simp only [List.mem_singleton] at hk; simp [hk])).putObj (l := l) (.inl (by simp)) (.loop { r with state := .exhausted })
          have hb1 : l ≠ ob ∧ r2 ≠ r3 ∧ r2 ≠ ob ∧ r3 ≠ ob ∧ r2 ≠ l ∧ r3 ≠ l ∧ sb ≠ l ∧ sb ≠ ob ∧ D ≠ l ∧ D ≠ ob := by
            have := Hlt.out
            have := HDL.out
            omega
          have hob := putObj_other (o' := .loop { r with state := .exhausted }) g3 (fun e => hb1.1 e.symm)
          generalize W.putObj l (.loop { r with state := .exhausted }) = W5 at *
          have Hsb5 := Lib.hid (oF.blk Hsb.out (by simp; omega))
          have Hr25 := Lib.hid (oF.blk Hr2.out (by simp; omega))
          have Hr35 := Lib.hid (oF.blk Hr3.out (by simp; omega))
          have HD5 := Lib.hid (oF.blk HL.out.1 (by simp; omega))
          have Hob5 := Lib.hid hob
          have OF := Lib.hid oF
          have Hg2 := Lib.hid g2
          have Hb1 := Lib.hid hb1
          clear g1 g2 g3 g4 hl oF hob hb1 hbk
          obtain ⟨hT, mt, hR, mr⟩ := mk
          have r1 : W5.cell? ⟨sb, 1, none⟩ = some (.bool false) := by rw [cell_of_blk Hsb5.out]; rfl
          have ls := lt_of_blk Hsb5.out
          have k0 : W5.cell? ⟨ob, 0, none⟩ = some (.bool hT) := by rw [cell_of_blk Hob5.out]; rfl
          have k1 : W5.cell? ⟨ob, 1, none⟩ = some (.int .u64 mt) := by rw [cell_of_blk Hob5.out]; rfl
          have k2 : W5.cell? ⟨ob, 2, none⟩ = some (.bool hR) := by rw [cell_of_blk Hob5.out]; rfl
          have k3 : W5.cell? ⟨ob, 3, none⟩ = some (.int .u64 mr) := by rw [cell_of_blk Hob5.out]; rfl
          have lo := lt_of_blk Hob5.out
          have c0 : W5.cell? ⟨r2, 0, none⟩ = some (.bool false) := by rw [cell_of_blk Hr25.out]; rfl
          have c1 : W5.cell? ⟨r2, 1, none⟩ = some (.int .u64 0) := by rw [cell_of_blk Hr25.out]; rfl
          have c2 : W5.cell? ⟨r2, 2, none⟩ = some (.bool false) := by rw [cell_of_blk Hr25.out]; rfl
          have c3 : W5.cell? ⟨r2, 3, none⟩ = some (.int .u64 0) := by rw [cell_of_blk Hr25.out]; rfl
          have c4 : W5.cell? ⟨r3, 0, none⟩ = some (.int .u16 0) := by rw [cell_of_blk Hr35.out]; rfl
          have fz : ∀ j, W5.frozen? ⟨r2, j, none⟩ = false := fun j => frozen_of_blk Hr25.out
          have f20 := fz 0
          have f21 := fz 1
          have f22 := fz 2
          have f23 := fz 3
          have f30 : W5.frozen? ⟨r3, 0, none⟩ = false := frozen_of_blk Hr35.out
          have l2 := lt_of_blk Hr25.out
          have l3 := lt_of_blk Hr35.out
          have hne : ¬ r2 = r3 := Hb1.out.2.1
          have hne' : ¬ r3 = r2 := fun h => hne h.symm
          have hread : readL s.data.toList = (⟨hT, mt, hR, mr⟩, 0) := by
            unfold readL
            rw [if_neg (by rw [Hpl.out, len_data]; omega), hb]
            simp only [Bool.false_eq_true, if_false]
            rw [← hxs]
            have h1 := Hg2.out
            unfold gathered at h1
            cases hq : (xs.map dataKV).find? (fun kv => decide (kv.1 = ot)) with
            | none => rw [hq] at h1; simp only at h1 ⊢; rw [h1]
            | some kv => rw [hq] at h1; simp only at h1 ⊢; rw [h1]
          have Hread := Lib.hid hread
          have OW : Hid (∀ W', Only [r2, r3, D] W5 W' → Only [] w W') := Lib.hid (fun W' h => O1.out.trans' ((OF.out.mono (S' := [l, ob, r2, r3, D]) (fun k hk _ => by simp only [List.mem_cons, List.not_mem_nil, or_false] at hk ⊢; omega)).trans (h.mono (fun k hk _ => by simp only [List.mem_cons, List.not_mem_nil, or_false] at hk ⊢; omega))) (fun x hx hlt => by
            have e1 := HA.out
            have e2 := Hlt.out
            have e3 := HDL.out
            simp only [List.mem_cons, List.not_mem_nil, or_false] at hx
            omega))
          have hDn : D ≠ r2 ∧ D ≠ r3 := by have := Hlt.out; omega
          have HDn := Lib.hid hDn
          clear fz hread hDn hb hxs Hr OF Hob5 Hsb5 IT H0 O1 HP Hpl Hm HA HS HBx Hlt Hg2
          gi_wp2_with fail
          have q2 := setCell_blk (i := 3) (v := .int .u64 mr) (setCell_blk (i := 2) (v := .bool hR) (setCell_blk (i := 1) (v := .int .u64 mt) (setCell_blk (i := 0) (v := .bool hT) Hr25.out)))
          have p2 := ((((Only.refl [r2] W5).setCell (p := ⟨r2, 0, none⟩) (.inl (by simp)) (.bool hT)).setCell (p := ⟨r2, 1, none⟩) (.inl (by simp)) (.int .u64 mt)).setCell (p := ⟨r2, 2, none⟩) (.inl (by simp)) (.bool hR)).setCell (p := ⟨r2, 3, none⟩) (.inl (by simp)) (.int .u64 mr)
          have q3 := setCell_blk (i := 0) (v := .int .u16 0) (p2.blk Hr35.out (by simpa using hne'))
          have hD6 := ((p2.mono (S' := [r2, r3]) (fun k hk _ => by simp only [List.mem_singleton] at hk; simp [hk])).setCell (p := ⟨r3, 0, none⟩) (.inl (by simp)) (.int .u16 0)).blk HD5.out (by simpa using HDn.out)
          have p3 := (((p2.mono (S' := [r2, r3, D]) (fun k hk _ => by simp only [List.mem_singleton] at hk; simp [hk])).setCell (p := ⟨r3, 0, none⟩) (.inl (by simp)) (.int .u16 0)).putObj (l := D) (.inl (by simp)) (.deferred none))
          have q2' := putObj_other (o' := .deferred none) (((Only.refl [r3] _).setCell (p := ⟨r3, 0, none⟩) (.inl (by simp)) (.int .u16 0)).blk q2 (by simpa using hne)) (fun e => HDn.out.1 e.symm)
          have q3' := putObj_other (o' := .deferred none) q3 (fun e => HDn.out.2 e.symm)
          refine ⟨by simp, .inl ⟨_, _, rfl, run_takeDeferred hD6, ?_⟩⟩
          generalize hWf : World.putObj _ D (.deferred none) = Wf at *
          have k0 : Wf.cell? ⟨r2, 0, none⟩ = some (.bool hT) := by rw [cell_of_blk q2']; rfl
          have k1 : Wf.cell? ⟨r2, 1, none⟩ = some (.int .u64 mt) := by rw [cell_of_blk q2']; rfl
          have k2 : Wf.cell? ⟨r2, 2, none⟩ = some (.bool hR) := by rw [cell_of_blk q2']; rfl
          have k3 : Wf.cell? ⟨r2, 3, none⟩ = some (.int .u64 mr) := by rw [cell_of_blk q2']; rfl
          have k4 : Wf.cell? ⟨r3, 0, none⟩ = some (.int .u16 0) := by rw [cell_of_blk q3']; rfl
          exact ⟨.tuple #[.agg #[.bool hT, .int .u64 mt, .bool hR, .int .u64 mr], .int .u16 0], by simp [results, Tryd.results19, go_sem, k0, k1, k2, k3, k4], by rw [Hread.out]; rfl, OW.out _ p3⟩
        · -- a member is wrong
          obtain ⟨g1, ⟨mk, g2, g3⟩, g4⟩ := hJ
          have hl := g1.blk HL.out.2.1 (by have := Hlt.out; have := HDL.out; simp; omega)
          have es := congrArg Loop.state Hr.out
          have ep := congrArg Loop.pending Hr.out
          dsimp only at es ep
          have hb1 : l ≠ ob ∧ r2 ≠ r3 ∧ r2 ≠ ob ∧ r3 ≠ ob ∧ r2 ≠ l ∧ r3 ≠ l ∧ sb ≠ l ∧ sb ≠ ob ∧ D ≠ l ∧ D ≠ ob ∧ sb ≠ r2 ∧ sb ≠ r3 ∧ sb ≠ D := by
            have := Hlt.out
            have := HDL.out
            omega
          have oS := (g1.mono (S' := [sb, ob]) (fun k hk _ => by simp only [List.mem_singleton] at hk; simp [hk])).setCell (p := ⟨sb, 1, none⟩) (.inl (by simp)) (.bool true)
          have hlS := oS.blk HL.out.2.1 (by simp; omega)
          refine ⟨v, r, rfl, hlS, (fun h => by rw [es] at h; cases h), (fun _ => ?_), (fun c h => by rw [ep] at h; cases h)⟩
          clear es ep
          have oF := (oS.mono (S' := [l, sb, ob]) (fun k hk _ => by simp only [List.mem_cons, List.not_mem_nil, or_false] at hk; simp; omega)).putObj (l := l) (.inl (by simp)) (.loop { r with state := .exhausted })
          have hsb := putObj_other (o' := .loop { r with state := .exhausted }) (setCell_blk (i := 1) (v := .bool true) (g1.blk Hsb.out (by simp; omega))) (fun e => hb1.2.2.2.2.2.2.1 e)
          generalize World.putObj _ l (.loop { r with state := .exhausted }) = W5 at *
          have Hsb5 := Lib.hid hsb
          have Hr25 := Lib.hid (oF.blk Hr2.out (by simp; omega))
          have Hr35 := Lib.hid (oF.blk Hr3.out (by simp; omega))
          have HD5 := Lib.hid (oF.blk HL.out.1 (by simp; omega))
          have OF := Lib.hid oF
          have Hb1 := Lib.hid hb1
          clear g1 g2 g3 g4 hl oF hb1 oS hlS hsb
          have r1 : W5.cell? ⟨sb, 1, none⟩ = some (.bool true) := by rw [cell_of_blk Hsb5.out]; rfl
          have ls := lt_of_blk Hsb5.out
          have c0 : W5.cell? ⟨r2, 0, none⟩ = some (.bool false) := by rw [cell_of_blk Hr25.out]; rfl
          have c1 : W5.cell? ⟨r2, 1, none⟩ = some (.int .u64 0) := by rw [cell_of_blk Hr25.out]; rfl
          have c2 : W5.cell? ⟨r2, 2, none⟩ = some (.bool false) := by rw [cell_of_blk Hr25.out]; rfl
          have c3 : W5.cell? ⟨r2, 3, none⟩ = some (.int .u64 0) := by rw [cell_of_blk Hr25.out]; rfl
          have c4 : W5.cell? ⟨r3, 0, none⟩ = some (.int .u16 0) := by rw [cell_of_blk Hr35.out]; rfl
          have fz : ∀ j, W5.frozen? ⟨r2, j, none⟩ = false := fun j => frozen_of_blk Hr25.out
          have f20 := fz 0
          have f21 := fz 1
          have f22 := fz 2
          have f23 := fz 3
          have f30 : W5.frozen? ⟨r3, 0, none⟩ = false := frozen_of_blk Hr35.out
          have l2 := lt_of_blk Hr25.out
          have l3 := lt_of_blk Hr35.out
          have hne : ¬ r2 = r3 := Hb1.out.2.1
          have hne' : ¬ r3 = r2 := fun h => hne h.symm
          have hread : readL s.data.toList = (Mk.none, 31) := by
            unfold readL
            rw [if_neg (by rw [Hpl.out, len_data]; omega), hb]
            rfl
          have Hread := Lib.hid hread
          have OW : Hid (∀ W', Only [r2, r3, D] W5 W' → Only [] w W') := Lib.hid (fun W' h => O1.out.trans' ((OF.out.mono (S' := [l, sb, ob, r2, r3, D]) (fun k hk _ => by simp only [List.mem_cons, List.not_mem_nil, or_false] at hk ⊢; omega)).trans (h.mono (fun k hk _ => by simp only [List.mem_cons, List.not_mem_nil, or_false] at hk ⊢; omega))) (fun x hx hlt => by
            have e1 := HA.out
            have e2 := Hlt.out
            have e3 := HDL.out
            simp only [List.mem_cons, List.not_mem_nil, or_false] at hx
            omega))
          have hDn : D ≠ r2 ∧ D ≠ r3 := by have := Hlt.out; omega
          have HDn := Lib.hid hDn
          clear fz hread hDn hb hxs Hr OF Hsb5 IT H0 O1 HP Hpl Hm HA HS HBx Hlt
          gi_wp2_with fail
          have q2 := setCell_blk (i := 3) (v := .int .u64 0) (setCell_blk (i := 2) (v := .bool false) (setCell_blk (i := 1) (v := .int .u64 0) (setCell_blk (i := 0) (v := .bool false) Hr25.out)))
          have p2 := ((((Only.refl [r2] W5).setCell (p := ⟨r2, 0, none⟩) (.inl (by simp)) (.bool false)).setCell (p := ⟨r2, 1, none⟩) (.inl (by simp)) (.int .u64 0)).setCell (p := ⟨r2, 2, none⟩) (.inl (by simp)) (.bool false)).setCell (p := ⟨r2, 3, none⟩) (.inl (by simp)) (.int .u64 0)
          have q3 := setCell_blk (i := 0) (v := .int .u16 31) (p2.blk Hr35.out (by simpa using hne'))
          have hD6 := ((p2.mono (S' := [r2, r3]) (fun k hk _ => by simp only [List.mem_singleton] at hk; simp [hk])).setCell (p := ⟨r3, 0, none⟩) (.inl (by simp)) (.int .u16 31)).blk HD5.out (by simpa using HDn.out)
          have p3 := (((p2.mono (S' := [r2, r3, D]) (fun k hk _ => by simp only [List.mem_singleton] at hk; simp [hk])).setCell (p := ⟨r3, 0, none⟩) (.inl (by simp)) (.int .u16 31)).putObj (l := D) (.inl (by simp)) (.deferred none))
          have q2' := putObj_other (o' := .deferred none) (((Only.refl [r3] _).setCell (p := ⟨r3, 0, none⟩) (.inl (by simp)) (.int .u16 31)).blk q2 (by simpa using hne)) (fun e => HDn.out.1 e.symm)
          have q3' := putObj_other (o' := .deferred none) q3 (fun e => HDn.out.2 e.symm)
          refine ⟨by simp, .inl ⟨_, _, rfl, run_takeDeferred hD6, ?_⟩⟩
          generalize hWf : World.putObj _ D (.deferred none) = Wf at *
          have k0 : Wf.cell? ⟨r2, 0, none⟩ = some (.bool false) := by rw [cell_of_blk q2']; rfl
          have k1 : Wf.cell? ⟨r2, 1, none⟩ = some (.int .u64 0) := by rw [cell_of_blk q2']; rfl
          have k2 : Wf.cell? ⟨r2, 2, none⟩ = some (.bool false) := by rw [cell_of_blk q2']; rfl
          have k3 : Wf.cell? ⟨r2, 3, none⟩ = some (.int .u64 0) := by rw [cell_of_blk q2']; rfl
          have k4 : Wf.cell? ⟨r3, 0, none⟩ = some (.int .u16 31) := by rw [cell_of_blk q3']; rfl
          exact ⟨.tuple #[.agg #[.bool false, .int .u64 0, .bool false, .int .u64 0], .int .u16 31], by simp [results, Tryd.results19, go_sem, k0, k1, k2, k3, k4], by rw [Hread.out]; rfl, OW.out _ p3⟩
        · -- ot's value is wrong
          obtain ⟨g1, hl, g2, g3, kv, hkv, hmk⟩ := hX
          refine ⟨v, _, rfl, hl, (fun h => by cases h), (fun h => by cases h), (fun c h => ?_)⟩
          cases h
          have oF := g1.putObj (l := l) (.inl (by simp)) (.loop { r with state := .exhausted, pending := some .ret })
          have hb1 : l ≠ ob ∧ r2 ≠ r3 ∧ r2 ≠ ob ∧ r3 ≠ ob ∧ r2 ≠ l ∧ r3 ≠ l ∧ D ≠ l ∧ D ≠ ob ∧ D ≠ r2 ∧ D ≠ r3 := by
            have := Hlt.out
            have := HDL.out
            omega
          have q2 := putObj_other (o' := .loop { r with state := .exhausted, pending := some .ret }) g2 hb1.2.2.2.2.1
          have q3 := putObj_other (o' := .loop { r with state := .exhausted, pending := some .ret }) g3 hb1.2.2.2.2.2.1
          have hD5 := oF.blk HL.out.1 (by simp; omega)
          simp only
          generalize World.putObj _ l (.loop { r with state := .exhausted, pending := some .ret }) = W5 at *
          have HD5 := Lib.hid hD5
          have HQ2 := Lib.hid q2
          have HQ3 := Lib.hid q3
          have Hb1 := Lib.hid hb1
          have hread : readL s.data.toList = (Mk.none, 31) := by
            unfold readL
            rw [if_neg (by rw [Hpl.out, len_data]; omega)]
            cases hbd : (membs [] (partsC 44 s.data.toList)).2 with
            | true => rfl
            | false =>
              simp only [Bool.false_eq_true, if_false]
              rw [hkv]
              simp only
              rw [hmk]
          have Hread := Lib.hid hread
          have OW : Hid (∀ W', Only [r2, r3, D] W5 W' → Only [] w W') := Lib.hid (fun W' h => O1.out.trans' ((oF.mono (S' := [l, ob, r2, r3, D]) (fun k hk _ => by simp only [List.mem_cons, List.not_mem_nil, or_false] at hk ⊢; omega)).trans (h.mono (fun k hk _ => by simp only [List.mem_cons, List.not_mem_nil, or_false] at hk ⊢; omega))) (fun x hx hlt => by
            have e1 := HA.out
            have e2 := Hlt.out
            have e3 := HDL.out
            simp only [List.mem_cons, List.not_mem_nil, or_false] at hx
            omega))
          clear g1 hl g2 g3 hkv hmk oF q2 q3 hD5 hb1 hread Hr IT H0 O1 HP Hpl Hm HA HS HBx Hlt
          gi_wp2_with fail
          have q2' := putObj_other (o' := .deferred none) HQ2.out (fun e => Hb1.out.2.2.2.2.2.2.2.2.1 e.symm)
          have q3' := putObj_other (o' := .deferred none) HQ3.out (fun e => Hb1.out.2.2.2.2.2.2.2.2.2 e.symm)
          have p3 := (Only.refl [r2, r3, D] W5).putObj (l := D) (.inl (by simp)) (.deferred none)
          refine ⟨by simp, .inl ⟨_, _, rfl, run_takeDeferred HD5.out, ?_⟩⟩
          generalize hWf : World.putObj _ D (.deferred none) = Wf at *
          have k0 : Wf.cell? ⟨r2, 0, none⟩ = some (.bool false) := by rw [cell_of_blk q2']; rfl
          have k1 : Wf.cell? ⟨r2, 1, none⟩ = some (.int .u64 0) := by rw [cell_of_blk q2']; rfl
          have k2 : Wf.cell? ⟨r2, 2, none⟩ = some (.bool false) := by rw [cell_of_blk q2']; rfl
          have k3 : Wf.cell? ⟨r2, 3, none⟩ = some (.int .u64 0) := by rw [cell_of_blk q2']; rfl
          have k4 : Wf.cell? ⟨r3, 0, none⟩ = some (.int .u16 31) := by rw [cell_of_blk q3']; rfl
          exact ⟨.tuple #[.agg #[.bool false, .int .u64 0, .bool false, .int .u64 0], .int .u16 31], by simp [results, Tryd.results19, go_sem, k0, k1, k2, k3, k4], by rw [Hread.out]; rfl, OW.out _ p3⟩

end Go.Proofs.YtfnbkcdcdeojfaaDoor
