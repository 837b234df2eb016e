/- The document's answer for layer 4, walked: Print and Parse; CtxParses. -/
import Derived.Test.YtfnbkcdcdeojfaaDoorRa
import Derived.BigQuiet
import Derived.Deep.QuietTactic
set_option linter.unusedVariables false
set_option linter.unusedSimpArgs false
namespace Go.Proofs.YtfnbkcdcdeojfaaDoor
open Go.RowKit Go.Mk Go.Cx
attribute [-go_sem] Builtin.append_

set_option maxRecDepth 100000 in
set_option maxHeartbeats 4000000 in
theorem rprint_walk (p : Pa) (w : World) (hp : p.hi < big ∧ p.lo < big ∧ p.span < big ∧ p.flags < 256) :
    Calls Tryd.prog 14 #[.agg (paArr p)] w fun e w' => e = .returned (.tuple #[.string ⟨(printL p).1.toArray⟩, .int .i64 ((printL p).2 : Nat)]) ∧ Only [] w w' := by
  obtain ⟨hi, lo, sp, fl⟩ := p
  obtain ⟨h1, h2, h3, h4⟩ := hp
  simp only at h1 h2 h3 h4
  simp only [paArr]
  by_cases hz : hi = 0 ∧ lo = 0
  · have hr : printL ⟨hi, lo, sp, fl⟩ = ([], 1) := by unfold printL; rw [if_pos (.inl hz)]
    obtain ⟨rfl, rfl⟩ := hz
    have Hr := Lib.hid hr
    clear hr
    go_enter Tryd.func14, Tryd.ntmps14
    go_wp2_with fail
    go_ret2
    exact ⟨by rw [Hr.out]; rfl, (Only.refl _ _).alloc _⟩
  · by_cases hs : sp = 0
    · have hr : printL ⟨hi, lo, sp, fl⟩ = ([], 1) := by unfold printL; rw [if_pos (.inr hs)]
      subst hs
      have Hr := Lib.hid hr
      clear hr
      have hq : (((hi : Int) == 0) = false) ∨ (((hi : Int) == 0) = true ∧ ((lo : Int) == 0) = false) := by
        by_cases h : hi = 0
        · right; exact ⟨by simp [h], by rw [beq_eq_false_iff_ne]; omega⟩
        · left; rw [beq_eq_false_iff_ne]; omega
      clear hz
      rcases hq with q1 | ⟨q1, q2⟩
      all_goals
        go_enter Tryd.func14, Tryd.ntmps14
        go_wp2_with fail
        go_ret2
        exact ⟨by rw [Hr.out]; rfl, (Only.refl _ _).alloc _⟩
    · have hs2 : ((sp : Int) == 0) = false := by rw [beq_eq_false_iff_ne]; omega
      have hr : printL ⟨hi, lo, sp, fl⟩ = ([48, 48] ++ [45] ++ hexedL hi 16 ++ hexedL lo 16 ++ [45] ++ hexedL sp 16 ++ [45] ++ hexedL fl 2, 0) := by unfold printL; rw [if_neg (fun h => h.elim hz hs)]
      have hq : (((hi : Int) == 0) = false) ∨ (((hi : Int) == 0) = true ∧ ((lo : Int) == 0) = false) := by
        by_cases h : hi = 0
        · right; exact ⟨by simp [h], by rw [beq_eq_false_iff_ne]; omega⟩
        · left; rw [beq_eq_false_iff_ne]; omega
      obtain ⟨A, hA⟩ : ∃ A : ByteArray, A = ⟨(hexedL hi 16).toArray⟩ := ⟨_, rfl⟩
      obtain ⟨B, hB⟩ : ∃ B : ByteArray, B = ⟨(hexedL lo 16).toArray⟩ := ⟨_, rfl⟩
      obtain ⟨S, hS⟩ : ∃ S : ByteArray, S = ⟨(hexedL sp 16).toArray⟩ := ⟨_, rfl⟩
      obtain ⟨F, hF⟩ : ∃ F : ByteArray, F = ⟨(hexedL fl 2).toArray⟩ := ⟨_, rfl⟩
      have C1 : Hid (∀ W, Calls Tryd.prog 28 #[.int .u64 hi, .int .i64 16] W fun e w' => e = .returned (.string A) ∧ w' = W) := Lib.hid (fun W => hA ▸ rdigits_walk hi 16 W h1 (by omega))
      have C2 : Hid (∀ W, Calls Tryd.prog 28 #[.int .u64 lo, .int .i64 16] W fun e w' => e = .returned (.string B) ∧ w' = W) := Lib.hid (fun W => hB ▸ rdigits_walk lo 16 W h2 (by omega))
      have C3 : Hid (∀ W, Calls Tryd.prog 28 #[.int .u64 sp, .int .i64 16] W fun e w' => e = .returned (.string S) ∧ w' = W) := Lib.hid (fun W => hS ▸ rdigits_walk sp 16 W h3 (by omega))
      have C4 : Hid (∀ W, Calls Tryd.prog 28 #[.int .u64 fl, .int .i64 2] W fun e w' => e = .returned (.string F) ∧ w' = W) := Lib.hid (fun W => hF ▸ rdigits_walk fl 2 W (by unfold big; omega) (by omega))
      have hwf : IntKind.u64.wrap (fl : Int) = fl := wraps_u64 _ (by omega) (by omega)
      have sA : A.size = 16 := by rw [hA]; exact hexedL_length hi 16
      have sB : B.size = 16 := by rw [hB]; exact hexedL_length lo 16
      have sS : S.size = 16 := by rw [hS]; exact hexedL_length sp 16
      have sF : F.size = 2 := by rw [hF]; exact hexedL_length fl 2
      have HX : Hid ((⟨([48, 48] ++ [45] ++ hexedL hi 16 ++ hexedL lo 16 ++ [45] ++ hexedL sp 16 ++ [45] ++ hexedL fl 2).toArray⟩ : ByteArray) = ⟨#[48, 48, 45]⟩ ++ A ++ B ++ ⟨#[45]⟩ ++ S ++ ⟨#[45]⟩ ++ F) := Lib.hid (by
        apply data_inj
        simp only [cat_data]
        rw [hA, hB, hS, hF]
        rfl)
      have Hr := Lib.hid hr
      clear hr hz hs hA hB hS hF h1 h2 h3 h4
      rcases hq with q1 | ⟨q1, q2⟩
      all_goals
        go_enter Tryd.func14, Tryd.ntmps14
        go_wp2_with fail
        go_quiet (first
          | (go_at_call_of 28 (Value.int IntKind.u64 ((hi : Nat) : Int)); exact Calls.quiet_of_same (C1.out _))
          | (go_at_call_of 28 (Value.int IntKind.u64 ((lo : Nat) : Int)); exact Calls.quiet_of_same (C2.out _))
          | (go_at_call_of 28 (Value.int IntKind.u64 ((sp : Nat) : Int)); exact Calls.quiet_of_same (C3.out _))
          | (go_at_call_of 28 (Value.int IntKind.u64 ((fl : Nat) : Int)); exact Calls.quiet_of_same (C4.out _)))
        go_wp2_with fail
        go_ret2
        exact ⟨by rw [Hr.out, HX.out]; rfl, ((Only.refl _ _).alloc _).drewN _⟩

def posOf (l : List UInt8) : Option Pa := if l.take 3 = [48, 48, 45] ∧ l[35]? = some 45 ∧ l[52]? = some 45 then hexes ((l.drop 3).take 16) ((l.drop 19).take 16) ((l.drop 36).take 16) (l.drop 53) else none
theorem hexA_free : ∀ {l : List UInt8} {n m : Nat}, hexA n l = some m → 45 ∉ l
  | [], _, _, _ => by simp
  | c :: l, n, m, h => by
    unfold hexA at h
    cases hd : digN c with
    | none => rw [hd] at h; cases h
    | some d =>
      rw [hd] at h
      intro hm
      rcases List.mem_cons.1 hm with e | hm
      · subst e; rw [show digN 45 = none from rfl] at hd; cases hd
      · exact hexA_free h hm
theorem cons_drop {l : List UInt8} {i : Nat} {c : UInt8} (h : l[i]? = some c) : l.drop i = c :: l.drop (i + 1) := by
  obtain ⟨h1, h2⟩ := List.getElem?_eq_some_iff.1 h
  rw [List.drop_eq_getElem_cons h1, h2]
theorem take_drop (l : List UInt8) (i k : Nat) : l.drop i = (l.drop i).take k ++ l.drop (i + k) := by
  rw [← List.drop_drop, List.take_append_drop]
theorem pa_pos {l : List UInt8} (h55 : l.length = 55) : paOf (splitC 45 l) = posOf l := by
  have key : l.take 3 = [48, 48, 45] ∧ l[35]? = some 45 ∧ l[52]? = some 45 → ∀ p, hexes ((l.drop 3).take 16) ((l.drop 19).take 16) ((l.drop 36).take 16) (l.drop 53) = some p → paOf (splitC 45 l) = some p := by
    rintro ⟨h1, h2, h3⟩ p hp
    have e0 : l = [48, 48] ++ 45 :: ((l.drop 3).take 32 ++ 45 :: ((l.drop 36).take 16 ++ 45 :: l.drop 53)) := by
      have a1 : l = l.take 3 ++ l.drop 3 := (List.take_append_drop 3 l).symm
      have a2 := take_drop l 3 32
      have a3 := cons_drop h2
      have a4 := take_drop l 36 16
      have a5 := cons_drop h3
      rw [h1, a2, a3, a4, a5] at a1
      simpa using a1
    have hx : hexes ((l.drop 3).take 16) ((l.drop 19).take 16) ((l.drop 36).take 16) (l.drop 53) = some p := hp
    unfold hexes at hp
    cases g1 : hexL ((l.drop 3).take 16) with
    | none => rw [g1] at hp; cases hp
    | some n1 =>
    cases g2 : hexL ((l.drop 19).take 16) with
    | none => rw [g1, g2] at hp; cases hp
    | some n2 =>
    cases g3 : hexL ((l.drop 36).take 16) with
    | none => rw [g1, g2, g3] at hp; cases hp
    | some n3 =>
    cases g4 : hexL (l.drop 53) with
    | none => rw [g1, g2, g3, g4] at hp; cases hp
    | some n4 =>
    have f1 := hexA_free g1
    have f2 := hexA_free g2
    have f3 := hexA_free g3
    have f4 := hexA_free g4
    have e32 : (l.drop 3).take 32 = (l.drop 3).take 16 ++ (l.drop 19).take 16 := by
      rw [show (32 : Nat) = 16 + 16 from rfl, List.take_add, List.drop_drop]
    have hs : splitC 45 l = [[48, 48], (l.drop 3).take 32, (l.drop 36).take 16, l.drop 53] := by
      conv => lhs; rw [e0]
      rw [splitC_app (by decide), splitC_app (by rw [e32, List.mem_append]; rintro (h | h); exact f1 h; exact f2 h), splitC_app f3, splitC_one f4]
    rw [hs]
    unfold paOf
    simp only
    rw [if_pos ⟨trivial, by simp; omega, by simp; omega⟩]
    rw [show ((l.drop 3).take 32).take 16 = (l.drop 3).take 16 by rw [List.take_take]; rfl, show ((l.drop 3).take 32).drop 16 = (l.drop 19).take 16 by rw [List.drop_take, List.drop_drop]]
    exact hx
  have key2 : ∀ p, paOf (splitC 45 l) = some p → (l.take 3 = [48, 48, 45] ∧ l[35]? = some 45 ∧ l[52]? = some 45) ∧ hexes ((l.drop 3).take 16) ((l.drop 19).take 16) ((l.drop 36).take 16) (l.drop 53) = some p := by
    intro p hp
    unfold paOf at hp
    split at hp
    · rename_i a b c d hsp
      split at hp
      · rename_i hc
        obtain ⟨ha, hb, hc⟩ := hc
        have hj := join_splitC 45 l
        rw [hsp, ha] at hj
        have e0 : l = [48, 48] ++ 45 :: (b ++ 45 :: (c ++ 45 :: d)) := by
          rw [← hj, Lib.join_cons, joinTail_cons, joinTail_cons, joinTail_cons]
          simp [Lib.joinTail]
        have t1 : l.drop 3 = b ++ 45 :: (c ++ 45 :: d) := by rw [e0]; rfl
        have t2 : l.drop 35 = 45 :: (c ++ 45 :: d) := by
          rw [show (35 : Nat) = 3 + 32 from rfl, ← List.drop_drop, t1, List.drop_append_of_le_length (by omega), List.drop_eq_nil_of_le (by omega), List.nil_append]
        have t3 : l.drop 36 = c ++ 45 :: d := by
          rw [show (36 : Nat) = 35 + 1 from rfl, ← List.drop_drop, t2]; rfl
        have t4 : l.drop 52 = 45 :: d := by
          rw [show (52 : Nat) = 36 + 16 from rfl, ← List.drop_drop, t3, List.drop_append_of_le_length (by omega), List.drop_eq_nil_of_le (by omega), List.nil_append]
        have t5 : l.drop 53 = d := by
          rw [show (53 : Nat) = 52 + 1 from rfl, ← List.drop_drop, t4]; rfl
        have t6 : l.drop 19 = b.drop 16 ++ 45 :: (c ++ 45 :: d) := by
          rw [show (19 : Nat) = 3 + 16 from rfl, ← List.drop_drop, t1, List.drop_append_of_le_length (by omega)]
        refine ⟨⟨by rw [e0]; rfl, ?_, ?_⟩, ?_⟩
        · have := congrArg (·[0]?) t2
          simpa [List.getElem?_drop] using this
        · have := congrArg (·[0]?) t4
          simpa [List.getElem?_drop] using this
        · rw [t1, t6, t3, t5, List.take_append_of_le_length (by omega), List.take_append_of_le_length (by rw [List.length_drop]; omega), List.take_append_of_le_length (by omega), List.take_of_length_le (l := c) (by omega), List.take_of_length_le (l := b.drop 16) (by rw [List.length_drop]; omega)]
          exact hp
      · cases hp
    · cases hp
  cases hq : paOf (splitC 45 l) with
  | some p =>
    obtain ⟨h1, h2⟩ := key2 p hq
    unfold posOf
    rw [if_pos h1, h2]
  | none =>
    unfold posOf
    split
    · rename_i hc
      cases hh : hexes ((l.drop 3).take 16) ((l.drop 19).take 16) ((l.drop 36).take 16) (l.drop 53) with
      | none => rfl
      | some p =>
        rw [key hc p hh] at hq
        cases hq
    · rfl
theorem parse_no {s : ByteArray} (h5 : s.size = 55) (h : posOf s.data.toList = none) : parseL s.data.toList = (Pa.none, 31) := by
  unfold parseL
  rw [if_neg (by rw [len_data]; omega), pa_pos (by rw [len_data]; exact h5), h]
theorem parse_yes {s : ByteArray} {p : Pa} (h5 : s.size = 55) (h : posOf s.data.toList = some p) : parseL s.data.toList = if (p.hi = 0 ∧ p.lo = 0) ∨ p.span = 0 then (Pa.none, 1) else (p, 0) := by
  unfold parseL
  rw [if_neg (by rw [len_data]; omega), pa_pos (by rw [len_data]; exact h5), h]

set_option maxRecDepth 100000 in
set_option maxHeartbeats 4000000 in
theorem rparse_walk (s : ByteArray) (w : World) (hs : s.size ≤ 100000) :
    Calls Tryd.prog 29 #[.string s] w fun e w' => e = .returned (.tuple #[.agg (paArr (parseL s.data.toList).1), .int .i64 ((parseL s.data.toList).2 : Nat)]) ∧ Only [] w w' := by
  have oa := Lib.hid ((Only.refl [] w).alloc (.cells #[.int .u64 0, .int .u64 0, .int .u64 0, .int .u8 0] 33))
  by_cases h5 : s.size = 55
  · have n5 : ((s.size : Int) != 55) = false := by rw [bne_eq_false_iff_eq]; omega
    have eT : (s.extract 0 3).toList = s.data.toList.take 3 := by rw [Lib.toList_data, Lib.extract_data]; simp
    have lt35 : 35 < s.size := by omega
    have lt52 : 52 < s.size := by omega
    have g35 : s.data.toList[35]? = some s[35] := by rw [List.getElem?_eq_getElem (by rw [len_data]; omega)]; rfl
    have g52 : s.data.toList[52]? = some s[52] := by rw [List.getElem?_eq_getElem (by rw [len_data]; omega)]; rfl
    have hs55 : (s.size : Int) ≤ 55 := by omega
    have hs55' : (55 : Int) ≤ s.size := by omega
    have H5 := Lib.hid h5
    by_cases hc : s.data.toList.take 3 = [48, 48, 45] ∧ s[35] = 45 ∧ s[52] = 45
    · obtain ⟨h1, h2, h3⟩ := hc
      have b1 : ((s.extract 0 3).toList == [48, 48, 45]) = true := by rw [eT, h1]; rfl
      have b2 : ((s[35].toNat : Int) == 45) = true := by rw [h2]; rfl
      have b2' : ((s[35].toNat : Int) != 45) = false := by rw [bne, b2]; rfl
      have b3 : ((s[52].toNat : Int) == 45) = true := by rw [h3]; rfl
      have b3' : ((s[52].toNat : Int) != 45) = false := by rw [bne, b3]; rfl
      have hpo : posOf s.data.toList = hexes (s.extract 3 19).data.toList (s.extract 19 35).data.toList (s.extract 36 52).data.toList (s.extract 53 s.size).data.toList := by
        unfold posOf
        rw [if_pos ⟨h1, by rw [g35, h2], by rw [g52, h3]⟩, Lib.extract_data, Lib.extract_data, Lib.extract_data, Lib.extract_data]
        congr 1
        exact (List.take_of_length_le (by rw [List.length_drop, len_data]; omega)).symm
      have sz : ∀ a b : Nat, (s.extract a b).size ≤ 100000 := fun a b => by simp; omega
      have CA : Hid (∀ W, Calls Tryd.prog 43 #[.string (s.extract 3 19)] W fun e w' => e = .returned (.tuple #[.int .u64 (hexV (s.extract 3 19).data.toList), .bool (hexOk (s.extract 3 19).data.toList)]) ∧ w' = W) := Lib.hid (fun W => rhex_walk _ W (Nat.le_trans (sz _ _) (by omega)))
      have CB : Hid (∀ W, Calls Tryd.prog 43 #[.string (s.extract 19 35)] W fun e w' => e = .returned (.tuple #[.int .u64 (hexV (s.extract 19 35).data.toList), .bool (hexOk (s.extract 19 35).data.toList)]) ∧ w' = W) := Lib.hid (fun W => rhex_walk _ W (Nat.le_trans (sz _ _) (by omega)))
      have CC : Hid (∀ W, Calls Tryd.prog 43 #[.string (s.extract 36 52)] W fun e w' => e = .returned (.tuple #[.int .u64 (hexV (s.extract 36 52).data.toList), .bool (hexOk (s.extract 36 52).data.toList)]) ∧ w' = W) := Lib.hid (fun W => rhex_walk _ W (Nat.le_trans (sz _ _) (by omega)))
      have CD : Hid (∀ W, Calls Tryd.prog 43 #[.string (s.extract 53 s.size)] W fun e w' => e = .returned (.tuple #[.int .u64 (hexV (s.extract 53 s.size).data.toList), .bool (hexOk (s.extract 53 s.size).data.toList)]) ∧ w' = W) := Lib.hid (fun W => rhex_walk _ W (Nat.le_trans (sz _ _) (by omega)))
      have hvA := hexV_lt (s.extract 3 19).data.toList
      have hvB := hexV_lt (s.extract 19 35).data.toList
      have hvC := hexV_lt (s.extract 36 52).data.toList
      have hvD := hexV_lt (s.extract 53 s.size).data.toList
      have hno : (hexOk (s.extract 3 19).data.toList = false ∨ hexOk (s.extract 19 35).data.toList = false ∨ hexOk (s.extract 36 52).data.toList = false ∨ hexOk (s.extract 53 s.size).data.toList = false) → parseL s.data.toList = (Pa.none, 31) := fun h => parse_no h5 (by rw [hpo, hexes_none h])
      have hyes : hexOk (s.extract 3 19).data.toList = true → hexOk (s.extract 19 35).data.toList = true → hexOk (s.extract 36 52).data.toList = true → hexOk (s.extract 53 s.size).data.toList = true → parseL s.data.toList = if (hexV (s.extract 3 19).data.toList = 0 ∧ hexV (s.extract 19 35).data.toList = 0) ∨ hexV (s.extract 36 52).data.toList = 0 then (Pa.none, 1) else (⟨hexV (s.extract 3 19).data.toList, hexV (s.extract 19 35).data.toList, hexV (s.extract 36 52).data.toList, hexV (s.extract 53 s.size).data.toList % 256⟩, 0) := fun q1 q2 q3 q4 => by rw [parse_yes h5 (by rw [hpo, hexes_some q1 q2 q3 q4])]
      have w8 := wrap8 (hexV (s.extract 53 s.size).data.toList)
      generalize hexV (s.extract 3 19).data.toList = vA at *
      generalize hexV (s.extract 19 35).data.toList = vB at *
      generalize hexV (s.extract 36 52).data.toList = vC at *
      generalize hexV (s.extract 53 s.size).data.toList = vD at *
      generalize hexOk (s.extract 3 19).data.toList = oA at *
      generalize hexOk (s.extract 19 35).data.toList = oB at *
      generalize hexOk (s.extract 36 52).data.toList = oC at *
      generalize hexOk (s.extract 53 s.size).data.toList = oD at *
      clear h1 h2 h3 eT g35 g52 hpo sz h5
      have Hno := Lib.hid hno
      have Hyes := Lib.hid hyes
      have HV := Lib.hid (And.intro hvA (And.intro hvB (And.intro hvC hvD)))
      generalize hR : vD % 256 = R at *
      clear hno hyes hvA hvB hvC hvD hR
      rcases (show oA = false ∨ (oA = true ∧ oB = false) ∨ (oA = true ∧ oB = true ∧ oC = false) ∨ (oA = true ∧ oB = true ∧ oC = true ∧ oD = false) ∨ (oA = true ∧ oB = true ∧ oC = true ∧ oD = true) by cases oA <;> cases oB <;> cases oC <;> cases oD <;> simp) with rfl | ⟨rfl, rfl⟩ | ⟨rfl, rfl, rfl⟩ | ⟨rfl, rfl, rfl, rfl⟩ | ⟨rfl, rfl, rfl, rfl⟩
      iterate 4
        · have E := Lib.hid (Hno.out (by simp))
          go_enter Tryd.func29, Tryd.ntmps29
          go_wp2_with fail
          refine (CA.out _).mono ?_
          rintro e w' ⟨rfl, rfl⟩
          go_wp2_with fail
          refine (CB.out _).mono ?_
          rintro e w' ⟨rfl, rfl⟩
          go_wp2_with fail
          refine (CC.out _).mono ?_
          rintro e w' ⟨rfl, rfl⟩
          go_wp2_with fail
          refine (CD.out _).mono ?_
          rintro e w' ⟨rfl, rfl⟩
          go_wp2_with fail
          exact bodyPost_ret (v := .tuple #[.agg #[.int .u64 0, .int .u64 0, .int .u64 0, .int .u8 0], .int .i64 31]) (by simp [results, Tryd.results29, go_sem]) rfl ⟨by rw [E.out]; rfl, oa.out⟩
      · have E1 := Lib.hid (Hyes.out rfl rfl rfl rfl)
        rcases (show (vA ≠ 0 ∧ vC = 0) ∨ (vA ≠ 0 ∧ vC ≠ 0) ∨ (vA = 0 ∧ vB = 0) ∨ (vA = 0 ∧ vB ≠ 0 ∧ vC = 0) ∨ (vA = 0 ∧ vB ≠ 0 ∧ vC ≠ 0) by omega) with ⟨z1, z2⟩ | ⟨z1, z2⟩ | ⟨z1, z2⟩ | ⟨z1, z2, z3⟩ | ⟨z1, z2, z3⟩
        · have y1 : ((vA : Int) == 0) = false := by rw [beq_eq_false_iff_ne]; omega
          have y3 : ((vC : Int) == 0) = true := by rw [beq_iff_eq]; omega
          have E := Lib.hid (show parseL s.data.toList = (Pa.none, 1) by rw [E1.out, if_pos (.inr z2)])
          clear z1 z2
          go_enter Tryd.func29, Tryd.ntmps29
          go_wp2_with fail
          refine (CA.out _).mono ?_
          rintro e w' ⟨rfl, rfl⟩
          go_wp2_with fail
          refine (CB.out _).mono ?_
          rintro e w' ⟨rfl, rfl⟩
          go_wp2_with fail
          refine (CC.out _).mono ?_
          rintro e w' ⟨rfl, rfl⟩
          go_wp2_with fail
          refine (CD.out _).mono ?_
          rintro e w' ⟨rfl, rfl⟩
          go_wp2_with fail
          exact bodyPost_ret (v := .tuple #[.agg #[.int .u64 0, .int .u64 0, .int .u64 0, .int .u8 0], .int .i64 1]) (by simp [results, Tryd.results29, go_sem]) rfl ⟨by rw [E.out]; rfl, oa.out⟩
        · have y1 : ((vA : Int) == 0) = false := by rw [beq_eq_false_iff_ne]; omega
          have y3 : ((vC : Int) == 0) = false := by rw [beq_eq_false_iff_ne]; omega
          have E := Lib.hid (show parseL s.data.toList = (⟨vA, vB, vC, R⟩, 0) by rw [E1.out, if_neg (by omega)])
          clear z1 z2
          go_enter Tryd.func29, Tryd.ntmps29
          go_wp2_with fail
          refine (CA.out _).mono ?_
          rintro e w' ⟨rfl, rfl⟩
          go_wp2_with fail
          refine (CB.out _).mono ?_
          rintro e w' ⟨rfl, rfl⟩
          go_wp2_with fail
          refine (CC.out _).mono ?_
          rintro e w' ⟨rfl, rfl⟩
          go_wp2_with fail
          refine (CD.out _).mono ?_
          rintro e w' ⟨rfl, rfl⟩
          go_wp2_with fail
          exact bodyPost_ret (v := .tuple #[.agg #[.int .u64 (vA : Int), .int .u64 (vB : Int), .int .u64 (vC : Int), .int .u8 (R : Int)], .int .i64 0]) (by simp [results, Tryd.results29, go_sem]) rfl ⟨by rw [E.out]; rfl, (Only.refl _ _).alloc _⟩
        · have y1 : ((vA : Int) == 0) = true := by rw [beq_iff_eq]; omega
          have y2 : ((vB : Int) == 0) = true := by rw [beq_iff_eq]; omega
          have E := Lib.hid (show parseL s.data.toList = (Pa.none, 1) by rw [E1.out, if_pos (.inl ⟨z1, z2⟩)])
          clear z1 z2
          go_enter Tryd.func29, Tryd.ntmps29
          go_wp2_with fail
          refine (CA.out _).mono ?_
          rintro e w' ⟨rfl, rfl⟩
          go_wp2_with fail
          refine (CB.out _).mono ?_
          rintro e w' ⟨rfl, rfl⟩
          go_wp2_with fail
          refine (CC.out _).mono ?_
          rintro e w' ⟨rfl, rfl⟩
          go_wp2_with fail
          refine (CD.out _).mono ?_
          rintro e w' ⟨rfl, rfl⟩
          go_wp2_with fail
          exact bodyPost_ret (v := .tuple #[.agg #[.int .u64 0, .int .u64 0, .int .u64 0, .int .u8 0], .int .i64 1]) (by simp [results, Tryd.results29, go_sem]) rfl ⟨by rw [E.out]; rfl, oa.out⟩
        · have y1 : ((vA : Int) == 0) = true := by rw [beq_iff_eq]; omega
          have y2 : ((vB : Int) == 0) = false := by rw [beq_eq_false_iff_ne]; omega
          have y3 : ((vC : Int) == 0) = true := by rw [beq_iff_eq]; omega
          have E := Lib.hid (show parseL s.data.toList = (Pa.none, 1) by rw [E1.out, if_pos (.inr z3)])
          clear z1 z2 z3
          go_enter Tryd.func29, Tryd.ntmps29
          go_wp2_with fail
          refine (CA.out _).mono ?_
          rintro e w' ⟨rfl, rfl⟩
          go_wp2_with fail
          refine (CB.out _).mono ?_
          rintro e w' ⟨rfl, rfl⟩
          go_wp2_with fail
          refine (CC.out _).mono ?_
          rintro e w' ⟨rfl, rfl⟩
          go_wp2_with fail
          refine (CD.out _).mono ?_
          rintro e w' ⟨rfl, rfl⟩
          go_wp2_with fail
          exact bodyPost_ret (v := .tuple #[.agg #[.int .u64 0, .int .u64 0, .int .u64 0, .int .u8 0], .int .i64 1]) (by simp [results, Tryd.results29, go_sem]) rfl ⟨by rw [E.out]; rfl, oa.out⟩
        · have y1 : ((vA : Int) == 0) = true := by rw [beq_iff_eq]; omega
          have y2 : ((vB : Int) == 0) = false := by rw [beq_eq_false_iff_ne]; omega
          have y3 : ((vC : Int) == 0) = false := by rw [beq_eq_false_iff_ne]; omega
          have E := Lib.hid (show parseL s.data.toList = (⟨vA, vB, vC, R⟩, 0) by rw [E1.out, if_neg (by omega)])
          clear z1 z2 z3
          go_enter Tryd.func29, Tryd.ntmps29
          go_wp2_with fail
          refine (CA.out _).mono ?_
          rintro e w' ⟨rfl, rfl⟩
          go_wp2_with fail
          refine (CB.out _).mono ?_
          rintro e w' ⟨rfl, rfl⟩
          go_wp2_with fail
          refine (CC.out _).mono ?_
          rintro e w' ⟨rfl, rfl⟩
          go_wp2_with fail
          refine (CD.out _).mono ?_
          rintro e w' ⟨rfl, rfl⟩
          go_wp2_with fail
          exact bodyPost_ret (v := .tuple #[.agg #[.int .u64 (vA : Int), .int .u64 (vB : Int), .int .u64 (vC : Int), .int .u8 (R : Int)], .int .i64 0]) (by simp [results, Tryd.results29, go_sem]) rfl ⟨by rw [E.out]; rfl, (Only.refl _ _).alloc _⟩
    · have hp : posOf s.data.toList = none := by
        unfold posOf
        rw [if_neg (fun h => hc ⟨h.1, by have := h.2.1; rw [g35] at this; exact Option.some.inj this, by have := h.2.2; rw [g52] at this; exact Option.some.inj this⟩)]
      have E := Lib.hid (parse_no h5 hp)
      clear hp h5
      by_cases h1 : s.data.toList.take 3 = [48, 48, 45]
      · have b1 : ((s.extract 0 3).toList == [48, 48, 45]) = true := by rw [eT, h1]; rfl
        by_cases h2 : s[35] = 45
        · have h3 : s[52] ≠ 45 := fun h => hc ⟨h1, h2, h⟩
          have b2 : ((s[35].toNat : Int) == 45) = true := by rw [h2]; rfl
          have b2' : ((s[35].toNat : Int) != 45) = false := by rw [bne, b2]; rfl
          have b3 : ((s[52].toNat : Int) == 45) = false := byte_ne (b := 45) h3
          have b3' : ((s[52].toNat : Int) != 45) = true := by rw [bne, b3]; rfl
          clear hc h1 h2 h3 eT g35 g52
          go_enter Tryd.func29, Tryd.ntmps29
          go_wp2_with fail
          exact bodyPost_ret (v := .tuple #[.agg #[.int .u64 0, .int .u64 0, .int .u64 0, .int .u8 0], .int .i64 31]) (by simp [results, Tryd.results29, go_sem]) rfl ⟨by rw [E.out]; rfl, oa.out⟩
        · have b2 : ((s[35].toNat : Int) == 45) = false := byte_ne (b := 45) h2
          have b2' : ((s[35].toNat : Int) != 45) = true := by rw [bne, b2]; rfl
          clear hc h1 h2 eT g35 g52
          go_enter Tryd.func29, Tryd.ntmps29
          go_wp2_with fail
          exact bodyPost_ret (v := .tuple #[.agg #[.int .u64 0, .int .u64 0, .int .u64 0, .int .u8 0], .int .i64 31]) (by simp [results, Tryd.results29, go_sem]) rfl ⟨by rw [E.out]; rfl, oa.out⟩
      · have b1 : ((s.extract 0 3).toList == [48, 48, 45]) = false := by rw [eT]; simpa using h1
        clear hc h1 eT g35 g52
        go_enter Tryd.func29, Tryd.ntmps29
        go_wp2_with fail
        exact bodyPost_ret (v := .tuple #[.agg #[.int .u64 0, .int .u64 0, .int .u64 0, .int .u8 0], .int .i64 31]) (by simp [results, Tryd.results29, go_sem]) rfl ⟨by rw [E.out]; rfl, oa.out⟩
  · have n5 : ((s.size : Int) != 55) = true := by rw [bne_iff_ne]; omega
    have n6 : ((s.size : Int) == 55) = false := by rw [beq_eq_false_iff_ne]; omega
    have E := Lib.hid (parseL_size h5)
    clear h5
    go_enter Tryd.func29, Tryd.ntmps29
    go_wp2_with fail
    exact bodyPost_ret (v := .tuple #[.agg #[.int .u64 0, .int .u64 0, .int .u64 0, .int .u8 0], .int .i64 31]) (by simp [results, Tryd.results29, go_sem]) rfl ⟨by rw [E.out]; rfl, oa.out⟩

end Go.Proofs.YtfnbkcdcdeojfaaDoor
