/- Package ctx, walked: the members of a state, as an iterator. -/
import Derived.Test.YtfnbkcdcdeojfaaDoorCg
import Derived.Test.YtfnbkcdcdeojfaaDoorMr
import Derived.Test.YtfnbkcdcdeojfaaDoorMt
set_option linter.unusedVariables false
set_option linter.unusedSimpArgs false
namespace Go.Proofs.YtfnbkcdcdeojfaaDoor
open Go.RowKit Go.Mk Go.Cx Go.Shelf
attribute [-go_sem] Builtin.append_
attribute [local go_sem] Oper.semAt_some

abbrev BV := ByteArray × ByteArray
def dataKV (x : BV) : KV := (x.1.data.toList, x.2.data.toList)

/-- What a caller's invariant must bear, so that the iterator can go on: J pre X W: pre has come; the blocks X are the iterator's own. -/
structure ItOk (J : List BV → List Nat → World → Prop) (sb bx : Nat) (s : ByteArray) (m : Int) : Prop where
  reads : ∀ pre X W, J pre X W → W.heap[bx]? = some (.cells #[.pointer (some ⟨sb, 0, none⟩)] 55 (0, 0)) ∧ W.heap[sb]? = some (.cells #[.string s, .bool false] 57 (0, 0)) ∧ W.cell? ⟨0, 0, none⟩ = some (.int .i64 m) ∧ bx ∉ X ∧ sb ∉ X ∧ 0 ∉ X
  swap : ∀ pre X X' A B, J pre X A → Only X A B → (∀ x ∈ X', x ∈ X ∨ A.heap.size ≤ x) → (∀ x ∈ X', x < B.heap.size) → J pre X' B

def seenL (pre : List BV) : List (List UInt8) := (pre.map fun x => x.1.data.toList).reverse
theorem seenL_snoc (pre : List BV) (x : BV) : seenL (pre ++ [x]) = x.1.data.toList :: seenL pre := by simp [seenL]
theorem data_inj {a b : ByteArray} (h : a.data.toList = b.data.toList) : a = b := by
  obtain ⟨⟨x⟩⟩ := a
  obtain ⟨⟨y⟩⟩ := b
  simp only at h
  rw [h]
theorem blocks_only {w w' : World} {e k : Nat} {xs : List (List Value)} {sv : Value} (h : SliceIs w e k xs sv) (hk : ∀ x ∈ blockOf sv, w'.heap[x]? = w.heap[x]?) : SliceIs w' e k xs sv := by
  cases h with
  | nil => exact .nil
  | row h =>
    obtain ⟨cur, hb, hr⟩ := h.blk
    exact .row ⟨h.wide, ⟨cur, (hk _ (by simp [blockOf])).trans hb, hr⟩, h.fits, h.top⟩
theorem str_cellP {w : World} {l : List ByteArray} {p : Option Addr} {n c j : Nat} {x : ByteArray} (h : SliceIs w 9 1 (strs l) (.slice p n c)) (hx : l[j]? = some x) : ∃ g o, p = some ⟨g, o, none⟩ ∧ g < w.heap.size ∧ w.cell? ⟨g, o + j, none⟩ = some (.string x) := by
  generalize hX : strs l = Y at h
  generalize hV : Value.slice p n c = V at h
  cases h with
  | nil =>
    have : l = [] := by unfold strs at hX; simpa using hX
    subst this
    cases hx
  | @row _ g2 off cap hr =>
    obtain ⟨h6, _, _⟩ := Value.slice.inj hV
    subst hX
    have h1 := hr.cell (i := j) (f := 0) (x := [.string x]) (by unfold strs; rw [List.getElem?_map, hx]; rfl) rfl
    exact ⟨g2, off, h6, hr.lt, by simpa using h1⟩

set_option maxRecDepth 100000 in
set_option maxHeartbeats 8000000 in
theorem members_it (n l sb bx : Nat) (s : ByteArray) (m : Int) (hs : s.size ≤ 100000) (J : List BV → List Nat → World → Prop) (Jx : World → Prop) (hJ : ItOk J sb bx s m)
    (hY : ∀ pre x X W, J pre X W → (pre ++ [x]).map dataKV <+: (membs [] (partsC 44 s.data.toList)).1 → YieldAt Fence.wide (n - 1) Tryd.prog l #[.string x.1, .string x.2] W fun e W' =>
      (e = .returned (.bool true) ∧ J (pre ++ [x]) X W' ∧ W.heap.size ≤ W'.heap.size ∧ ∀ k ∈ X, W'.heap[k]? = W.heap[k]?) ∨ (e = .returned (.bool false) ∧ Jx W'))
    (W : World) (h0 : J [] [] W) :
    CallsIn Fence.wide n Tryd.prog 34 #[.func (.yield l) #[] #[], .pointer (some ⟨bx, 0, none⟩)] W fun e W' => (∃ v, e = .returned v) ∧
      (((membs [] (partsC 44 s.data.toList)).2 = false ∧ ∃ xs X, xs.map dataKV = (membs [] (partsC 44 s.data.toList)).1 ∧ J xs X W') ∨
       ((membs [] (partsC 44 s.data.toList)).2 = true ∧ ∃ xs X W'', xs.map dataKV = (membs [] (partsC 44 s.data.toList)).1 ∧ J xs X W'' ∧ W' = W''.setCell ⟨sb, 1, none⟩ (.bool true)) ∨ Jx W') := by
  have hmm := @run_makeMap Tryd.prog
  obtain ⟨a1, a2, a3, _, _, _⟩ := hJ.reads _ _ _ h0
  have rb : W.cell? ⟨bx, 0, none⟩ = some (.pointer (some ⟨sb, 0, none⟩)) := by rw [cell_of_blk a1]; rfl
  have rs : W.cell? ⟨sb, 0, none⟩ = some (.string s) := by rw [cell_of_blk a2]; rfl
  have lb := lt_of_blk a1
  have ls := lt_of_blk a2
  have C := Lib.hid (parts_walk s 44 m (W.alloc (.map #[] 0)) hs (((Only.refl [] W).alloc _).cell a3 (by simp)))
  clear a1 a2 a3
  refine callsIn_of_wp Tryd.func34 rfl trivial ?_ rfl
  simp only [Tryd.ntmps34, List.size_toArray, List.length_cons, List.length_nil, Nat.reduceAdd, Nat.reduceSub, Array.replicate_succ, Array.replicate_zero, List.push_toArray, List.append_toArray, List.nil_append, List.cons_append]
  gi_wp2_with fail
  refine ⟨trivial, (fun h => by cases h), (callsIn_wide.2 C.out).mono ?_⟩
  rintro e w2 ⟨p, l', rfl, h1, h2, h3, h4, h5⟩
  have hmb := heap_alloc_new W (.map #[] 0)
  have oa := (Only.refl [] W).alloc (.map #[] 0)
  have hml := lt_of_blk hmb
  generalize hw1 : W.alloc (.map #[] 0) = w1 at *
  have hmb2 := h4.blk hmb (by simp)
  generalize hmbn : W.heap.size = mb at *
  have hlen : (l'.length : Int) ≤ 100001 := by
    have := congrArg List.length h1
    unfold dataL partsC at this
    rw [List.length_map] at this
    have h6 := List.count_le_length (a := (44 : UInt8)) (l := s.data.toList)
    rw [len_data] at h6
    split at this
    · simp only [List.length_nil] at this; omega
    · rw [splitC_length] at this; omega
  have HJ0 : Hid (J [] (mb :: blockOf (.slice p l'.length l'.length)) w2) := Lib.hid (hJ.swap [] [] _ W w2 h0 (oa.trans h4) (fun x hx => .inr (by
      rcases List.mem_cons.1 hx with rfl | hx
      · omega
      · have := h5 x hx; have := oa.size; omega)) (fun x hx => by
      rcases List.mem_cons.1 hx with rfl | hx
      · exact lt_of_blk hmb2
      · exact h3.lt x hx))
  have HmX : Hid (mb ∉ blockOf (.slice p l'.length l'.length)) := Lib.hid (fun hm => by have := h5 mb hm; omega)
  have HP := Lib.hid h1
  have Hxs := Lib.hid h2
  have Hsl := Lib.hid h3
  have HM0 : Hid (MapMem w2 Value.string mb [] 0) := Lib.hid ⟨hmb2, by simp, by simp, by simp⟩
  clear h1 h2 h3 h4 h5 hmb oa hml hmb2 C hw1 hmbn rb rs lb ls h0 hmm
  gi_wp2_with fail
  gi_loopw [16] (fun iv wr => ∃ (i : Nat) (pre : List BV) (ms : List (Ent ByteArray)) (ck : Nat), iv = .int .i64 i ∧ i ≤ l'.length ∧
      ((membs [] (dataL l')).1 = pre.map dataKV ++ (membs (seenL pre) ((dataL l').drop i)).1 ∧ (membs [] (dataL l')).2 = (membs (seenL pre) ((dataL l').drop i)).2) ∧
      J pre (mb :: blockOf (.slice p l'.length l'.length)) wr ∧ MapMem wr Value.string mb ms ck ∧ (∀ k : ByteArray, getL k ms = if k.data.toList ∈ seenL pre then some (.int .i64 1) else none) ∧
      SliceIs wr 9 1 (strs l') (.slice p l'.length l'.length)) (fun iv _ => l'.length - (intOf iv).toNat)
  case atStart => exact ⟨0, [], [], 0, rfl, by omega, ⟨rfl, rfl⟩, HJ0.out, HM0.out, fun k => rfl, Hsl.out⟩
  case round =>
    obtain ⟨i, pre, ms, ck, rfl, hi, ⟨hq1, hq2⟩, hJr, hM, hg, hsl⟩ := hrel
    clear HJ0 HM0 Hsl
    by_cases hil : i < l'.length
    · have g1 : decide (i < l'.length) = true := decide_eq_true hil
      obtain ⟨x, hx⟩ : ∃ x, l'[i]? = some x := ⟨_, List.getElem?_eq_getElem hil⟩
      obtain ⟨gb, go, rfl, hgl, cx⟩ := str_cellP hsl hx
      have hxs := Hxs.out x (List.mem_of_getElem? hx)
      obtain ⟨a1, a2, a3, a4, a5, a6⟩ := hJ.reads _ _ _ hJr
      have C := Lib.hid (cut_walk x 61 m wr (by omega) a3)
      have hdr : (dataL l').drop i = x.data.toList :: (dataL l').drop (i + 1) := by
        have h7 : (dataL l')[i]? = some x.data.toList := by unfold dataL; rw [List.getElem?_map, hx]; rfl
        have hlt : i < (dataL l').length := (List.getElem?_eq_some_iff.1 h7).1
        rw [List.drop_eq_getElem_cons hlt, (List.getElem?_eq_some_iff.1 h7).2]
      rw [hdr, membs] at hq1 hq2
      have Hq1 := Lib.hid hq1
      have Hq2 := Lib.hid hq2
      have HJr := Lib.hid hJr
      have HM := Lib.hid hM
      have Hg := Lib.hid hg
      have Hsl := Lib.hid hsl
      have Ha := Lib.hid (And.intro a1 (And.intro a2 (And.intro a3 (And.intro a4 (And.intro a5 a6)))))
      clear hdr hq1 hq2 hJr hM hg hsl a1 a2 a3 a4 a5 a6 hx
      gi_wp2_with fail
      refine ⟨trivial, (fun h => by cases h), (callsIn_wide.2 C.out).mono ?_⟩
      rintro e w3 ⟨k, v, rfl, hk, hv, hks, hvs, q, rfl⟩
      obtain ⟨f, hf⟩ : ∃ f, f = (cutC 61 x.data.toList).2.2 := ⟨_, rfl⟩
      rw [← hf]
      have hmem : memOne (seenL pre) x.data.toList = if f && (keyOk k.data.toList && (valOk v.data.toList && !(seenL pre).contains k.data.toList)) then some (k.data.toList, v.data.toList) else none := by
        unfold memOne
        rw [← hf, ← hk, ← hv]
      -- the map: asked, written, asked again
      obtain ⟨c, hc⟩ : ∃ c : Int, c = if k.data.toList ∈ seenL pre then 1 else 0 := ⟨_, rfl⟩
      have hc01 : 0 ≤ c ∧ c ≤ 1 := by rw [hc]; split <;> omega
      have hM3 := HM.out.only ((Only.refl [] wr).drewN q) (by simp)
      have hlk := run_lookup_one (P := Tryd.prog) Tryd.underlying75 (keyOk_str Tryd.underlying9) (Tryd.zeroValue3 (wr.drewN q)) hM3 k
      rw [Hg.out k, show (if k.data.toList ∈ seenL pre then some (Value.int .i64 1) else none).getD (.int .i64 0) = .int .i64 c by rw [hc]; split <;> rfl] at hlk
      obtain ⟨ms2, ck2, hup, q1, q2, q3, q4⟩ := run_mapUpdate_mem (P := Tryd.prog) Tryd.underlying75 (keyOk_str Tryd.underlying9) hM3 k (.int .i64 (c + 1))
      have hml := lt_of_blk HM.out.blk
      obtain ⟨w5, hw5⟩ : ∃ w5, w5 = ChangeMaps.setBlock (wr.drewN q) mb (.map (ms2.map (Ent.mk' Value.string)).toArray ck2) := ⟨_, rfl⟩
      have o5 : Only [mb] wr w5 := by rw [hw5]; exact ((Only.refl _ _).drewN q).setBlock (.inl (by simp)) _
      rw [← hw5] at hup
      have hM5 : MapMem w5 Value.string mb ms2 ck2 := ⟨by rw [hw5]; exact map_setBlock hml, q1, q2, q3⟩
      have hlk5 := run_lookup_one (P := Tryd.prog) Tryd.underlying75 (keyOk_str Tryd.underlying9) (Tryd.zeroValue3 w5) hM5 k
      rw [q4 k, if_pos rfl] at hlk5
      have HJ5 : Hid (J pre (mb :: blockOf (.slice (some ⟨gb, go, none⟩) l'.length l'.length)) w5) := Lib.hid (hJ.swap _ _ _ wr w5 HJr.out (o5.mono (fun y hy _ => by simp only [List.mem_singleton] at hy; subst hy; simp)) (fun y hy => .inl hy) (fun y hy => by
        rcases List.mem_cons.1 hy with rfl | hy
        · exact lt_of_blk hM5.blk
        · exact o5.lt (Hsl.out.lt y hy)))
      have hmx : mb ∉ blockOf (.slice (some ⟨gb, go, none⟩) l'.length l'.length) := HmX.out
      have HSl5 := Lib.hid (Hsl.out.only o5 (fun y hy hm => by simp only [List.mem_singleton] at hm; subst hm; exact hmx hy))
      have HM5 := Lib.hid hM5
      obtain ⟨a1, a2, a3, a4, a5, a6⟩ := hJ.reads _ _ _ HJ5.out
      have rb : w5.cell? ⟨bx, 0, none⟩ = some (.pointer (some ⟨sb, 0, none⟩)) := by rw [cell_of_blk a1]; rfl
      have rs : w5.cell? ⟨sb, 1, none⟩ = some (.bool false) := by rw [cell_of_blk a2]; rfl
      have rf : w5.frozen? ⟨sb, 1, none⟩ = false := frozen_of_blk a2
      have lb := lt_of_blk a1
      have ls := lt_of_blk a2
      have K1 := Lib.hid (key_walk k w5 (by omega))
      have K2 := Lib.hid (value_walk v w5 (by omega))
      have Hks := Lib.hid (And.intro hks hvs)
      have hcs : (f && (keyOk k.data.toList && (valOk v.data.toList && !decide (1 < c + 1)))) = (f && (keyOk k.data.toList && (valOk v.data.toList && !(seenL pre).contains k.data.toList))) := by
        have h8 : decide (1 < c + 1) = (seenL pre).contains k.data.toList := by
          rw [hc]
          by_cases h9 : k.data.toList ∈ seenL pre
          · rw [if_pos h9, List.contains_iff_mem.2 h9]; rfl
          · rw [if_neg h9]
            have : (seenL pre).contains k.data.toList = false := by rw [Bool.eq_false_iff]; exact fun h => h9 (List.contains_iff_mem.1 h)
            rw [this]; rfl
        rw [h8]
      rw [← hcs] at hmem
      have Hmem := Lib.hid hmem
      have Hc := Lib.hid hc
      have Hq4 := Lib.hid q4
      have HW5 := Lib.hid hw5
      obtain ⟨hc0, hc1⟩ := hc01
      generalize hkb : keyOk k.data.toList = kb at K1 Hmem
      generalize hvb : valOk v.data.toList = vb at K2 Hmem
      clear hcs hmem hc hM3 hM5 q1 q2 q3 q4 o5 a1 a2 a3 a4 a5 a6 hk hv hf hks hvs C cx hxs hgl hmx hkb hvb hw5 hml Ha
      by_cases hbad : (f && (kb && (vb && !decide (1 < c + 1)))) = true
      · simp only [Bool.and_eq_true, Bool.not_eq_true', decide_eq_false_iff_not] at hbad
        obtain ⟨rfl, rfl, rfl, hnc⟩ := hbad
        obtain rfl : c = 0 := by omega
        simp only [Int.zero_add] at hup hlk5
        have hm0 := Hmem.out
        simp only [Bool.true_and, Int.zero_add, Int.lt_irrefl, decide_false, Bool.not_false, if_true] at hm0
        have e1 := Hq1.out
        have e2 := Hq2.out
        rw [hm0] at e1 e2
        simp only at e1 e2
        have hkv : (k.data.toList, v.data.toList) = dataKV (k, v) := rfl
        have hsn : k.data.toList :: seenL pre = seenL (pre ++ [(k, v)]) := (seenL_snoc pre (k, v)).symm
        rw [hkv, hsn] at e1
        rw [hsn] at e2
        have hpre : (pre ++ [(k, v)]).map dataKV <+: (membs [] (partsC 44 s.data.toList)).1 := by
          rw [← HP.out, e1, List.map_append, List.map_singleton]
          exact ⟨_, by rw [List.append_assoc]; rfl⟩
        have e1' : (membs [] (dataL l')).1 = (pre ++ [(k, v)]).map dataKV ++ (membs (seenL (pre ++ [(k, v)])) ((dataL l').drop (i + 1))).1 := by
          rw [e1, List.map_append, List.map_singleton, List.append_assoc]
          rfl
        have E1 := Lib.hid e1'
        have E2 := Lib.hid e2
        obtain ⟨fn, tmps, assign, body, hy, hR⟩ := hY pre (k, v) _ w5 HJ5.out hpre
        simp only at hy
        have HR := Lib.hid hR
        clear hm0 e1 e2 hkv hsn hpre e1' hR
        gi_wp2_with (first | (refine ⟨trivial, (fun h => by cases h), ?_⟩; first | (gi_at_call 36; refine (callsIn_wide.2 K1.out).mono ?_; rintro e w' ⟨rfl, rfl⟩) | (gi_at_call 37; refine (callsIn_wide.2 K2.out).mono ?_; rintro e w' ⟨rfl, rfl⟩)))
        refine ⟨(fun h => by cases h), HR.out.mono ?_⟩
        rintro e W3 (⟨rfl, hJ3, hsz, hk3⟩ | ⟨rfl, hxx⟩)
        · have HJ3 := Lib.hid hJ3
          have HM3 : Hid (MapMem W3 Value.string mb ms2 ck2) := Lib.hid ⟨(hk3 mb (by simp)).trans HM5.out.blk, HM5.out.keys, HM5.out.born, HM5.out.old⟩
          have HS3 := Lib.hid (blocks_only HSl5.out (fun y hy => hk3 y (List.mem_cons_of_mem _ hy)))
          have HG3 : Hid (∀ k' : ByteArray, getL k' ms2 = if k'.data.toList ∈ seenL (pre ++ [(k, v)]) then some (.int .i64 1) else none) := Lib.hid (fun k' => by
            rw [Hq4.out k', seenL_snoc]
            simp only [List.mem_cons]
            by_cases h8 : k = k'
            · subst h8; simp
            · rw [if_neg h8, Hg.out k']
              have h9 : ¬ k'.data.toList = k.data.toList := fun e => h8 (data_inj e.symm)
              simp [h9])
          clear hJ3 hsz hk3
          gi_wp2_with fail
          go_roundw
          case rel => exact ⟨i + 1, pre ++ [(k, v)], ms2, ck2, by go_num, by omega, ⟨E1.out, E2.out⟩, HJ3.out, HM3.out, HG3.out, HS3.out⟩
          case measure => simp [intOf]; omega
        · have HX := Lib.hid hxx
          clear hxx
          gi_wp2_with fail
          refine bodyPost_ret (results_none rfl _ _ _) rfl ?_
          exact ⟨⟨_, rfl⟩, .inr (.inr HX.out)⟩
      · have hbf := Bool.eq_false_iff.2 hbad
        have hm0 := Hmem.out
        rw [hbf] at hm0
        have e1 := Hq1.out
        have e2 := Hq2.out
        rw [hm0] at e1 e2
        simp only [List.append_nil, Bool.false_eq_true, if_false] at e1 e2
        have E1 := Lib.hid e1
        have E2 := Lib.hid e2
        clear hm0 e1 e2 hbad
        have fin : ∀ W', W' = w5.setCell ⟨sb, 1, none⟩ (.bool true) → (((membs [] (partsC 44 s.data.toList)).2 = false ∧ ∃ xs X, xs.map dataKV = (membs [] (partsC 44 s.data.toList)).1 ∧ J xs X W') ∨
            ((membs [] (partsC 44 s.data.toList)).2 = true ∧ ∃ xs X W'', xs.map dataKV = (membs [] (partsC 44 s.data.toList)).1 ∧ J xs X W'' ∧ W' = W''.setCell ⟨sb, 1, none⟩ (.bool true)) ∨ Jx W') := by
          rintro W' rfl
          rw [← HP.out]
          exact .inr (.inl ⟨E2.out, pre, _, w5, E1.out.symm, HJ5.out, rfl⟩)
        have Fin := Lib.hid fin
        clear fin
        cases f with
        | false =>
          clear hbf
          gi_wp2_with fail
          refine ⟨trivial, ?_⟩
          gi_wp2_with fail
          refine ⟨trivial, ?_⟩
          gi_wp2_with fail
          refine bodyPost_ret (results_none rfl _ _ _) rfl ?_
          exact ⟨⟨_, rfl⟩, Fin.out _ rfl⟩
        | true =>
          cases kb with
          | false =>
            clear hbf
            gi_wp2_with (refine ⟨trivial, (fun h => by cases h), ?_⟩; first | (gi_at_call 36; refine (callsIn_wide.2 K1.out).mono ?_; rintro e w' ⟨rfl, rfl⟩))
            refine ⟨trivial, ?_⟩
            gi_wp2_with fail
            refine bodyPost_ret (results_none rfl _ _ _) rfl ?_
            exact ⟨⟨_, rfl⟩, Fin.out _ rfl⟩
          | true =>
            cases vb with
            | false =>
              clear hbf
              gi_wp2_with (refine ⟨trivial, (fun h => by cases h), ?_⟩; first | (gi_at_call 36; refine (callsIn_wide.2 K1.out).mono ?_; rintro e w' ⟨rfl, rfl⟩) | (gi_at_call 37; refine (callsIn_wide.2 K2.out).mono ?_; rintro e w' ⟨rfl, rfl⟩))
              refine bodyPost_ret (results_none rfl _ _ _) rfl ?_
              exact ⟨⟨_, rfl⟩, Fin.out _ rfl⟩
            | true =>
              have hcb : decide (1 < c + 1) = true := by simpa using hbf
              clear hbf
              gi_wp2_with (refine ⟨trivial, (fun h => by cases h), ?_⟩; first | (gi_at_call 36; refine (callsIn_wide.2 K1.out).mono ?_; rintro e w' ⟨rfl, rfl⟩) | (gi_at_call 37; refine (callsIn_wide.2 K2.out).mono ?_; rintro e w' ⟨rfl, rfl⟩))
              refine bodyPost_ret (results_none rfl _ _ _) rfl ?_
              exact ⟨⟨_, rfl⟩, Fin.out _ rfl⟩
    · have g1 : decide (i < l'.length) = false := decide_eq_false hil
      have h9 : (dataL l').drop i = [] := List.drop_eq_nil_of_le (by unfold dataL; rw [List.length_map]; omega)
      rw [h9] at hq1 hq2
      simp only [membs, List.append_nil] at hq1 hq2
      have Hq1 := Lib.hid hq1
      have Hq2 := Lib.hid hq2
      have HJr := Lib.hid hJr
      clear hq1 hq2 hJr hM hg hsl h9
      gi_wp2_with fail
      go_end0
      refine ⟨⟨_, rfl⟩, .inl ?_⟩
      rw [← HP.out]
      exact ⟨Hq2.out, pre, _, Hq1.out.symm, HJr.out⟩

end Go.Proofs.YtfnbkcdcdeojfaaDoor
