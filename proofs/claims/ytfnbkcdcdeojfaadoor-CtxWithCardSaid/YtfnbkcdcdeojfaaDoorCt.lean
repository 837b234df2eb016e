/- Laws of layer 4, walked: CtxSmall, CtxOthers, CtxLong. -/
import Derived.Test.YtfnbkcdcdeojfaaDoorCr
set_option linter.unusedVariables false
set_option linter.unusedSimpArgs false
namespace Go.Proofs.YtfnbkcdcdeojfaaDoor
open Go.RowKit Go.Mk Go.Cx
attribute [-go_sem] Builtin.append_

theorem conv_at {W : World} {g : Nat} (x : UInt8) (h : W.cell? ⟨g, 0, none⟩ = some (.int .u8 (x.toNat : Int))) : (convert 23 9 (.slice (some ⟨g, 0, none⟩) 1 1)).run Tryd.prog W = .ok (.string ⟨#[x]⟩) W := by
  refine run_convert_bytes_back (P := Tryd.prog) W 23 9 5 ⟨g, 0, none⟩ 1 [x] Tryd.underlying23 Tryd.underlying5 Tryd.underlying9 (fun j hj => ?_)
  have h0 : j = 0 := by simpa using hj
  subst h0
  simpa [Addr.add] using h
theorem conv_one (W : World) (x : UInt8) : (convert 23 9 (.slice (some ⟨W.heap.size, 0, none⟩) 1 1)).run Tryd.prog (W.alloc (.cells #[.int .u8 (x.toNat : Int)] 5)) = .ok (.string ⟨#[x]⟩) (W.alloc (.cells #[.int .u8 (x.toNat : Int)] 5)) :=
  conv_at x (by simp)
theorem conv_drew (W : World) (x : UInt8) : (convert 23 9 (.slice (some ⟨W.heap.size, 0, none⟩) 1 1)).run Tryd.prog (W.alloc (.cells #[.int .u8 (x.toNat : Int)] 5)).drew = .ok (.string ⟨#[x]⟩) (W.alloc (.cells #[.int .u8 (x.toNat : Int)] 5)).drew :=
  conv_at x (by simp)

set_option maxRecDepth 100000 in
theorem ix_small (q : Nat) (hq : q < 8) : ∀ w : World, (Instr.index 9 (.string ⟨#[65, 66, 67, 68, 69, 70, 103, 71]⟩) (.int .u8 (q : Int))).run Tryd.prog w = .ok (.int .u8 ((smallW.getD q 0).toNat : Int)) w := by
  have hc : q = 0 ∨ q = 1 ∨ q = 2 ∨ q = 3 ∨ q = 4 ∨ q = 5 ∨ q = 6 ∨ q = 7 := by omega
  rcases hc with rfl | rfl | rfl | rfl | rfl | rfl | rfl | rfl
  · exact fun _ => by kernel_rfl
  · exact fun _ => by kernel_rfl
  · exact fun _ => by kernel_rfl
  · exact fun _ => by kernel_rfl
  · exact fun _ => by kernel_rfl
  · exact fun _ => by kernel_rfl
  · exact fun _ => by kernel_rfl
  · exact fun _ => by kernel_rfl

def smallS : ByteArray := ⟨#[48, 48, 45, 48, 49, 50, 51, 52, 53, 54, 55, 56, 57, 97, 98, 99, 100, 101, 102, 48, 49, 50, 51, 52, 53, 54, 55, 56, 57, 97, 98, 99, 100, 101, 102, 45, 48, 49, 50, 51, 52, 53, 54, 55, 56, 57, 97, 98, 99, 100, 101, 102, 45, 48, 49]⟩
theorem smallS_data : smallS.data.toList = smallP := rfl
theorem smallS_size : smallS.size = 55 := rfl

set_option maxRecDepth 100000 in
set_option maxHeartbeats 2000000 in
theorem small_walk (k v : Nat) (m : Int) (w : World) (hk : k < 256) (hv : v < 256) (hm : w.cell? ⟨0, 0, none⟩ = some (.int .i64 m)) :
    Calls Tryd.prog 4 #[.int .u8 k, .int .u8 v] w fun e w' => e = .returned (.bool true) ∧ Only [] w w' := by
  have e1 : ((k : Int)).tmod 32 = ((k % 32 : Nat) : Int) := by rw [Int.tmod_eq_emod_of_nonneg (by omega)]; omega
  have e2 : ((v : Int)).tmod 8 = ((v % 8 : Nat) : Int) := by rw [Int.tmod_eq_emod_of_nonneg (by omega)]; omega
  have e3 : (k : Int) % 32 = ((k % 32 : Nat) : Int) := by omega
  have e4 : (v : Int) % 8 = ((v % 8 : Nat) : Int) := by omega
  have hi : k % 32 < 32 := by omega
  have hq : v % 8 < 8 := by omega
  generalize k % 32 = i at *
  generalize v % 8 = q at *
  have ix := ix_small q hq
  have cv := conv_drew w (smallW.getD q 0)
  have Hm := Lib.hid hm
  have hil : (i : Int) < 32 := by omega
  have Hq := Lib.hid hq
  clear hm hq
  generalize hx : smallW.getD q 0 = x at *
  have Hx := Lib.hid hx
  clear hx
  have hx2 : (x.toNat : Int) ≤ 255 := by have := x.toNat_lt; omega
  have hs := smallS_size
  go_enter Tryd.func4, Tryd.ntmps4
  go_wp2_with fail
  obtain ⟨S, hS⟩ : ∃ S : ByteArray, S = smallS := ⟨_, rfl⟩
  have hS' := hS
  unfold smallS at hS'
  rw [← hS']
  rw [← hS] at hs
  have HS := Lib.hid hS
  clear hS hS'
  have f1 : (0 : Int) ≤ 3 + i := by omega
  have f2 : (3 : Int) + i ≤ 55 := by omega
  have f3 : ((3 : Int) + i).toNat = 3 + i := by omega
  have f4 : IntKind.i64.wrap ((3 : Int) + i + 1) = 3 + i + 1 := IntWalk.i64_in _ (by omega)
  have f5 : (0 : Int) ≤ 3 + i + 1 := by omega
  have f6 : (3 : Int) + i + 1 ≤ 55 := by omega
  have f7 : ((3 : Int) + i + 1).toNat = 3 + i + 1 := by omega
  go_region
  obtain ⟨T, hT⟩ : ∃ T : ByteArray, T = S.extract 0 (3 + i) ++ ⟨#[x]⟩ ++ S.extract (3 + i + 1) 55 := ⟨_, rfl⟩
  rw [← hT]
  have hTd : T.data.toList = smallP.take (3 + i) ++ [x] ++ smallP.drop (3 + i + 1) := by
    rw [hT, cat_data, cat_data, Lib.extract_data, Lib.extract_data, HS.out, smallS_data, List.drop_zero, Nat.sub_zero]
    congr 1
    exact List.take_of_length_le (by simp [smallP])
  have hTs : T.size ≤ 100000 := by rw [← len_data, hTd]; simp [smallP]; omega
  have HTs := Lib.hid hTs
  have r1 := Lib.hid (show (parseL S.data.toList).2 = 0 by rw [HS.out, smallS_data]; exact small_s)
  have r2 := Lib.hid (show (parseL T.data.toList).2 = 31 by rw [hTd, ← Hx.out]; exact small_t ⟨i, hi⟩ ⟨q, Hq.out⟩)
  have oa : Only [] w (w.alloc (.cells #[.int .u8 (x.toNat : Int)] 5)).drew := ((Only.refl _ _).alloc _).drew
  generalize (w.alloc (.cells #[.int .u8 (x.toNat : Int)] 5)).drew = w1 at *
  have O1 := Lib.hid oa
  have Hm1 := Lib.hid (oa.cell Hm.out (by simp))
  clear hT hTd hTs oa cv ix f1 f2 f3 f4 f5 f6 f7 hi hil e1 e2 e3 e4 hx2
  have NX : Hid (∀ (L : ByteArray) (c : Nat) (W : World), L.size ≤ 100000 → (parseL L.data.toList).2 = c → Only [] w1 W → Calls Tryd.prog 12 #[.string L] W fun e w' => (∃ a b c' d : Nat, e = .returned (.tuple #[.agg #[.int .u64 a, .int .u64 b, .int .u64 c', .int .u8 d], .int .u16 (c : Nat)])) ∧ Only [] w1 w') := Lib.hid (fun L c W hL hc ho => (parse_walk L m W hL (ho.cell Hm1.out (by simp))).mono (by
    rintro e w' ⟨rfl, o⟩
    exact ⟨⟨_, _, _, _, by rw [hc]; rfl⟩, ho.trans o⟩))
  go_wp2_with fail
  refine (NX.out S 0 _ (by omega) r1.out (Only.refl _ _)).mono ?_
  rintro e w2 ⟨⟨pa, pb, pc, pd, rfl⟩, o2⟩
  have O2 := Lib.hid o2
  clear o2
  go_wp2_with fail
  refine (NX.out T 31 _ HTs.out r2.out (O2.out.alloc _)).mono ?_
  rintro e w3 ⟨⟨pa3, pb3, pc3, pd3, rfl⟩, o3⟩
  have O3 := Lib.hid o3
  clear o3 O2
  have dG : ((⟨#[48, 49]⟩ : ByteArray) ++ S.extract 2 55).data.toList = [48, 49] ++ smallP.drop 2 := by
    rw [cat_data, Lib.extract_data, HS.out, smallS_data]
    congr 1
  have dH : (S ++ (⟨#[48]⟩ : ByteArray)).data.toList = smallP ++ [48] := by rw [cat_data, HS.out, smallS_data]
  have rG := Lib.hid (show (parseL ((⟨#[48, 49]⟩ : ByteArray) ++ S.extract 2 55).data.toList).2 = 31 by rw [dG]; exact small_g)
  have rH := Lib.hid (show (parseL (S ++ (⟨#[48]⟩ : ByteArray)).data.toList).2 = 31 by rw [dH]; exact small_h)
  have sG := Lib.hid (show ((⟨#[48, 49]⟩ : ByteArray) ++ S.extract 2 55).size ≤ 100000 by rw [← len_data, dG]; decide)
  have sH := Lib.hid (show (S ++ (⟨#[48]⟩ : ByteArray)).size ≤ 100000 by rw [← len_data, dH]; decide)
  clear dG dH
  go_wp2_with fail
  refine (NX.out _ 31 _ sG.out rG.out (O3.out.alloc _)).mono ?_
  rintro e w4 ⟨⟨pa4, pb4, pc4, pd4, rfl⟩, o4⟩
  have O4 := Lib.hid o4
  clear o4 O3
  go_wp2_with fail
  refine (NX.out _ 31 _ sH.out rH.out (O4.out.alloc _)).mono ?_
  rintro e w5 ⟨⟨pa5, pb5, pc5, pd5, rfl⟩, o5⟩
  have O5 := Lib.hid o5
  clear o5 O4
  go_wp2_with fail
  refine (known04 m _ ((O5.out.alloc _).cell Hm1.out (by simp))).mono ?_
  rintro e w6 ⟨rfl, o6⟩
  have O6 := Lib.hid ((O1.out.trans (O5.out.alloc _)).trans o6)
  clear o6
  go_wp2_with fail
  go_ret
  exact ⟨rfl, O6.out⟩

theorem joinTail_snoc (sep x : List UInt8) : ∀ L : List (List UInt8), Lib.joinTail sep (L ++ [x]) = Lib.joinTail sep L ++ (sep ++ x)
  | [] => by simp [Lib.joinTail]
  | y :: r => by rw [List.cons_append, joinTail_cons, joinTail_cons, joinTail_snoc sep x r]; simp
theorem join_snoc {c : UInt8} {L : List (List UInt8)} {x : List UInt8} (h : L ≠ []) : Lib.join (L ++ [x]) [c] = Lib.join L [c] ++ [c] ++ x := by
  cases L with
  | nil => exact absurd rfl h
  | cons y r => rw [List.cons_append, Lib.join_cons, joinTail_snoc, Lib.join_cons]; simp
theorem wordsO_succ (n : Nat) : wordsO (n + 1) = wordsO n ++ [wordO n] := by unfold wordsO; rw [List.range_succ, List.map_append]; rfl
theorem ownO_succ {n : Nat} (h : 0 < n) : ownO (n + 1) = ownO n ++ [44] ++ wordO n := by
  unfold ownO
  rw [wordsO_succ, join_snoc (by unfold wordsO; simp; omega)]
theorem ownO_len : ∀ n : Fin 9, (ownO n.1).length ≤ 44 := by decide

theorem conv_nat {W : World} {g : Nat} {v : Int} (n : Nat) (hn : n < 256) (hv : v = n) (h : W.cell? ⟨g, 0, none⟩ = some (.int .u8 v)) : (convert 23 9 (.slice (some ⟨g, 0, none⟩) 1 1)).run Tryd.prog W = .ok (.string ⟨#[UInt8.ofNat n]⟩) W :=
  conv_at (UInt8.ofNat n) (by rw [h, hv]; simp; omega)

set_option maxRecDepth 100000 in
set_option maxHeartbeats 4000000 in
theorem others_walk (n k : Nat) (mm : Nat) (m : Int) (w : World) (hn : n < 256) (hk : k < 256) (hmm : mm < big) (hm : w.cell? ⟨0, 0, none⟩ = some (.int .i64 m)) :
    Calls Tryd.prog 3 #[.int .u8 n, .int .u8 k, .int .u64 mm] w fun e w' => e = .returned (.bool true) ∧ Only [] w w' := by
  have e1 : ((n : Int)).tmod 9 = ((n % 9 : Nat) : Int) := by rw [Int.tmod_eq_emod_of_nonneg (by omega)]; omega
  have e3 : (n : Int) % 9 = ((n % 9 : Nat) : Int) := by omega
  have hi : n % 9 < 9 := by omega
  generalize n % 9 = q at *
  have hil : (q : Int) < 9 := by omega
  have Hm := Lib.hid hm
  have Hq := Lib.hid hi
  clear hm hi
  go_enter Tryd.func3, Tryd.ntmps3
  go_wp2_with fail
  clear e1 e3
  go_loopw [7, 8, 10, 11] (fun sv ov iv xv wr => ∃ (i : Nat) (s : ByteArray), sv = .string s ∧ ov = .string s ∧ iv = .int .i64 i ∧ i ≤ q ∧ s.data.toList = ownO i ∧ Only [] w wr) (fun _ _ iv _ _ => q - (intOf iv).toNat)
  case atStart => exact ⟨0, ⟨#[]⟩, rfl, rfl, rfl, by omega, rfl, Only.refl _ _⟩
  case round =>
    obtain ⟨i, s, rfl, rfl, rfl, hi, hs, ho⟩ := hrel
    have hsz : s.size ≤ 44 := by rw [← len_data, hs]; exact ownO_len ⟨i, by have := Hq.out; omega⟩
    have Ho := Lib.hid ho
    clear ho
    by_cases hlt : i < q
    · have hq9 := Hq.out
      have g1 : decide (i < q) = true := decide_eq_true hlt
      have w1 : IntKind.u8.wrap (97 + (i : Int)) = 97 + i := by rw [IntKind.wrap_u8]; omega
      have w2 : IntKind.u8.wrap (49 + (i : Int)) = 49 + i := by rw [IntKind.wrap_u8]; omega
      have cv1 := conv_nat (W := wr.alloc (.cells #[.int .u8 (97 + (i : Int))] 5)) (g := wr.heap.size) (v := 97 + (i : Int)) (97 + i) (by omega) (by omega) (by simp)
      have cv2 := conv_nat (W := (wr.alloc (.cells #[.int .u8 (97 + (i : Int))] 5)).alloc (.cells #[.int .u8 (49 + (i : Int))] 5)) (g := wr.heap.size + 1) (v := 49 + (i : Int)) (49 + i) (by omega) (by omega) (by simp)
      obtain ⟨ca, hca⟩ : ∃ c, UInt8.ofNat (97 + i) = c := ⟨_, rfl⟩
      obtain ⟨cb, hcb⟩ : ∃ c, UInt8.ofNat (49 + i) = c := ⟨_, rfl⟩
      rw [hca] at cv1
      rw [hcb] at cv2
      have Ha := Lib.hid hca
      have Hb := Lib.hid hcb
      have Hs := Lib.hid hs
      clear hs hca hcb
      by_cases h0 : 0 < i
      · have g2 : decide (0 < (i : Int)) = true := decide_eq_true (by omega)
        have g3 : decide (0 < i) = true := decide_eq_true h0
        go_wp2_with fail
        refine ⟨⟨i + 1, _, rfl, rfl, by go_num, by omega, ?_, (Ho.out.alloc _).alloc _⟩, by simp [intOf]; omega⟩
        rw [ownO_succ h0]
        simp only [cat_data, wordO, Hs.out, Ha.out, Hb.out]
        simp
      · have g2 : decide (0 < (i : Int)) = false := decide_eq_false (by omega)
        have g3 : decide (0 < i) = false := decide_eq_false h0
        have Hi0 := Lib.hid (show i = 0 by omega)
        clear h0
        go_wp2_with fail
        refine ⟨⟨i + 1, _, rfl, rfl, by go_num, by omega, ?_, (Ho.out.alloc _).alloc _⟩, by simp [intOf]; omega⟩
        have hs0 := Hs.out
        rw [Hi0.out] at hs0
        rw [show ownO (i + 1) = wordO i by rw [Hi0.out]; rfl]
        rw [show ownO 0 = [] from rfl] at hs0
        simp only [cat_data, wordO, hs0, Ha.out, Hb.out]
        simp
    · have g1 : decide (i < q) = false := decide_eq_false hlt
      obtain rfl : q = i := by omega
      have kb : (k : Int) % 2 = ((k % 2 : Nat) : Int) := by omega
      have kc : ((k : Int)).tmod 2 = ((k % 2 : Nat) : Int) := by rw [Int.tmod_eq_emod_of_nonneg (by omega)]; omega
      have kd : (((k % 2 : Nat) : Int) == 0) = decide (k % 2 = 0) := by rw [Bool.eq_iff_iff]; simp; omega
      generalize k % 2 = pk at *
      have w1 : 0 ≤ mm % 72057594037927936 := Nat.zero_le _
      have w2 : (mm : Int) % 72057594037927936 = ((mm % 72057594037927936 : Nat) : Int) := by omega
      have w3 : ((mm : Int)).tmod 72057594037927936 = ((mm % 72057594037927936 : Nat) : Int) := by rw [Int.tmod_eq_emod_of_nonneg (by omega)]; omega
      have hR : mm % 72057594037927936 < 16 ^ 14 := Nat.lt_of_lt_of_le (Nat.mod_lt _ (by decide)) (by decide)
      have hbg : mm % 72057594037927936 < big := Nat.lt_of_lt_of_le (Nat.mod_lt _ (by decide)) (by decide)
      generalize mm % 72057594037927936 = R at *
      have HR := Lib.hid (And.intro hR hbg)
      have Hs := Lib.hid hs
      have Hm1 := Lib.hid (Ho.out.cell Hm.out (by simp))
      clear w1 hR hbg hs hlt g1 hi
      rcases (show (0 < q ∧ pk = 0) ∨ (0 < q ∧ ¬ pk = 0) ∨ ¬ 0 < q by omega) with ⟨h1, h2⟩ | ⟨h1, h2⟩ | h1
      · have g2 : decide (0 < (q : Int)) = true := decide_eq_true (by omega)
        have g3 : decide (0 < q) = true := decide_eq_true h1
        rw [h2] at kb kc
        have Ht : Hid ((⟨#[111, 116, 61, 120, 58, 49, 44]⟩ ++ s : ByteArray).data.toList = textO q (decide (pk = 0))) := Lib.hid (by
          rw [cat_data, Hs.out]
          simp [textO, h1, h2])
        have Hts : Hid ((⟨#[111, 116, 61, 120, 58, 49, 44]⟩ ++ s : ByteArray).size ≤ 100000) := Lib.hid (by rw [← len_data, cat_data, Hs.out, List.length_append]; have := ownO_len ⟨q, Hq.out⟩; simp at this ⊢; omega)
        clear h2 kd
        go_wp2_with fail
        generalize (⟨#[111, 116, 61, 120, 58, 49, 44]⟩ ++ s : ByteArray) = T at *
        obtain ⟨b, Hb⟩ : ∃ b, Hid (T.data.toList = textO q b) := ⟨_, Ht⟩
        have Htail : Hid ((⟨#[44]⟩ ++ s : ByteArray).data.toList = tailO q) := Lib.hid (by rw [cat_data, Hs.out]; simp [tailO, h1])
        clear Ht kb kc h1
        refine (with_walk T Mk.none m wr Hts.out (by decide) (by decide) Hm1.out).mono ?_
        rintro e wA ⟨rfl, oA⟩
        rw [Hb.out, others_none ⟨q, Hq.out⟩ b]
        simp only
        rw [show (⟨(ownO q).toArray⟩ : ByteArray) = s from data_inj (by rw [Hs.out])]
        have OA := Lib.hid (Ho.out.trans oA)
        have Hm2 := Lib.hid (oA.cell Hm1.out (by simp))
        clear oA Hm1
        go_wp2_with fail
        refine (with_walk T ⟨false, 0, true, R⟩ m _ Hts.out (by decide : (0 : Nat) < big) HR.out.2 Hm2.out).mono ?_
        rintro e wB ⟨rfl, oB⟩
        obtain ⟨A, hA, hAl⟩ := others_rv q Hq.out b R HR.out.1
        rw [Hb.out, hA]
        simp only
        obtain ⟨U, hU⟩ : ∃ U : ByteArray, U = ⟨(A ++ tailO q).toArray⟩ := ⟨_, rfl⟩
        rw [← hU]
        have HU := Lib.hid (And.intro hAl (show U.data.toList = A ++ tailO q by rw [hU]))
        have OB := Lib.hid (OA.out.trans oB)
        have CK := Lib.hid (known04 m wB (oB.cell Hm2.out (by simp)))
        clear hA hAl hU oB OA Hm2
        go_wp2_with fail
        refine CK.out.mono ?_
        rintro e wC ⟨rfl, oC⟩
        have OC := Lib.hid (OB.out.trans oC)
        obtain ⟨TL, hTL⟩ : ∃ TL : ByteArray, TL = ⟨#[44]⟩ ++ s := ⟨_, rfl⟩
        rw [← hTL] at Htail ⊢
        have hT1 : TL.size ≤ 100 := by rw [← len_data, Htail.out]; unfold tailO; split <;> simp; have := ownO_len ⟨q, Hq.out⟩; simp at this; omega
        have hU1 : U.size = 20 + TL.size := by rw [← len_data, HU.out.2, List.length_append, HU.out.1, ← len_data TL, Htail.out]
        have hX : U.extract 20 (20 + TL.size) = TL := by
          apply data_inj
          rw [Lib.extract_data, HU.out.2, Htail.out, Nat.add_sub_cancel_left, List.drop_append_of_le_length (by rw [HU.out.1]; omega), List.drop_eq_nil_of_le (by rw [HU.out.1]; omega), List.nil_append]
          exact List.take_of_length_le (by rw [← Htail.out, len_data]; omega)
        have q1 : (U.size : Int) = 20 + TL.size := by omega
        have q2 : (20 + (TL.size : Int)) - TL.size = 20 := by omega
        clear hTL oC CK OB
        go_wp2_with fail
        go_ret
        exact ⟨rfl, OC.out⟩
      · have g2 : decide (0 < (q : Int)) = true := decide_eq_true (by omega)
        have g3 : decide (0 < q) = true := decide_eq_true h1
        rw [decide_eq_false h2] at kd
        have Ht : Hid (s.data.toList = textO q (decide (pk = 0))) := Lib.hid (by
          rw [Hs.out]
          simp [textO, h2])
        have Hts : Hid (s.size ≤ 100000) := Lib.hid (by omega)
        clear h2
        go_wp2_with fail
        obtain ⟨b, Hb⟩ : ∃ b, Hid (s.data.toList = textO q b) := ⟨_, Ht⟩
        have Htail : Hid ((⟨#[44]⟩ ++ s : ByteArray).data.toList = tailO q) := Lib.hid (by rw [cat_data, Hs.out]; simp [tailO, h1])
        clear Ht kb kc kd h1
        refine (with_walk s Mk.none m wr Hts.out (by decide) (by decide) Hm1.out).mono ?_
        rintro e wA ⟨rfl, oA⟩
        rw [Hb.out, others_none ⟨q, Hq.out⟩ b]
        simp only
        rw [show (⟨(ownO q).toArray⟩ : ByteArray) = s from data_inj (by rw [Hs.out])]
        have OA := Lib.hid (Ho.out.trans oA)
        have Hm2 := Lib.hid (oA.cell Hm1.out (by simp))
        clear oA Hm1
        go_wp2_with fail
        refine (with_walk s ⟨false, 0, true, R⟩ m _ Hts.out (by decide : (0 : Nat) < big) HR.out.2 Hm2.out).mono ?_
        rintro e wB ⟨rfl, oB⟩
        obtain ⟨A, hA, hAl⟩ := others_rv q Hq.out b R HR.out.1
        rw [Hb.out, hA]
        simp only
        obtain ⟨U, hU⟩ : ∃ U : ByteArray, U = ⟨(A ++ tailO q).toArray⟩ := ⟨_, rfl⟩
        rw [← hU]
        have HU := Lib.hid (And.intro hAl (show U.data.toList = A ++ tailO q by rw [hU]))
        have OB := Lib.hid (OA.out.trans oB)
        have CK := Lib.hid (known04 m wB (oB.cell Hm2.out (by simp)))
        clear hA hAl hU oB OA Hm2
        go_wp2_with fail
        refine CK.out.mono ?_
        rintro e wC ⟨rfl, oC⟩
        have OC := Lib.hid (OB.out.trans oC)
        obtain ⟨TL, hTL⟩ : ∃ TL : ByteArray, TL = ⟨#[44]⟩ ++ s := ⟨_, rfl⟩
        rw [← hTL] at Htail ⊢
        have hT1 : TL.size ≤ 100 := by rw [← len_data, Htail.out]; unfold tailO; split <;> simp; have := ownO_len ⟨q, Hq.out⟩; simp at this; omega
        have hU1 : U.size = 20 + TL.size := by rw [← len_data, HU.out.2, List.length_append, HU.out.1, ← len_data TL, Htail.out]
        have hX : U.extract 20 (20 + TL.size) = TL := by
          apply data_inj
          rw [Lib.extract_data, HU.out.2, Htail.out, Nat.add_sub_cancel_left, List.drop_append_of_le_length (by rw [HU.out.1]; omega), List.drop_eq_nil_of_le (by rw [HU.out.1]; omega), List.nil_append]
          exact List.take_of_length_le (by rw [← Htail.out, len_data]; omega)
        have q1 : (U.size : Int) = 20 + TL.size := by omega
        have q2 : (20 + (TL.size : Int)) - TL.size = 20 := by omega
        clear hTL oC CK OB
        go_wp2_with fail
        go_ret
        exact ⟨rfl, OC.out⟩
      · have g2 : decide (0 < (q : Int)) = false := decide_eq_false (by omega)
        have g3 : decide (0 < q) = false := decide_eq_false h1
        have Ht : Hid (s.data.toList = textO q (decide (pk = 0))) := Lib.hid (by
          rw [Hs.out]
          simp [textO, h1])
        have Hts : Hid (s.size ≤ 100000) := Lib.hid (by omega)
        go_wp2_with fail
        obtain ⟨b, Hb⟩ : ∃ b, Hid (s.data.toList = textO q b) := ⟨_, Ht⟩
        have Htail : Hid (tailO q = []) := Lib.hid (by simp [tailO, h1])
        clear Ht kb kc kd h1
        refine (with_walk s Mk.none m wr Hts.out (by decide) (by decide) Hm1.out).mono ?_
        rintro e wA ⟨rfl, oA⟩
        rw [Hb.out, others_none ⟨q, Hq.out⟩ b]
        simp only
        rw [show (⟨(ownO q).toArray⟩ : ByteArray) = s from data_inj (by rw [Hs.out])]
        have OA := Lib.hid (Ho.out.trans oA)
        have Hm2 := Lib.hid (oA.cell Hm1.out (by simp))
        clear oA Hm1
        go_wp2_with fail
        refine (with_walk s ⟨false, 0, true, R⟩ m _ Hts.out (by decide : (0 : Nat) < big) HR.out.2 Hm2.out).mono ?_
        rintro e wB ⟨rfl, oB⟩
        obtain ⟨A, hA, hAl⟩ := others_rv q Hq.out b R HR.out.1
        rw [Hb.out, hA]
        simp only
        obtain ⟨U, hU⟩ : ∃ U : ByteArray, U = ⟨(A ++ tailO q).toArray⟩ := ⟨_, rfl⟩
        rw [← hU]
        have HU := Lib.hid (And.intro hAl (show U.data.toList = A ++ tailO q by rw [hU]))
        have OB := Lib.hid (OA.out.trans oB)
        have CK := Lib.hid (known04 m wB (oB.cell Hm2.out (by simp)))
        clear hA hAl hU oB OA Hm2
        go_wp2_with fail
        refine CK.out.mono ?_
        rintro e wC ⟨rfl, oC⟩
        have OC := Lib.hid (OB.out.trans oC)
        have hU1 : U.size = 20 := by rw [← len_data, HU.out.2, List.length_append, HU.out.1, Htail.out]; rfl
        have hX : U.extract 20 20 = ⟨#[]⟩ := by
          apply data_inj
          rw [Lib.extract_data]; simp
        have q1 : (U.size : Int) = 20 := by omega
        clear oC CK OB
        go_wp2_with fail
        go_ret
        exact ⟨rfl, OC.out⟩

end Go.Proofs.YtfnbkcdcdeojfaaDoor
