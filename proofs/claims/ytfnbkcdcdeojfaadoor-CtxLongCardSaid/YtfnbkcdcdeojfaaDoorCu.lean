/- Laws of layer 4, walked: CtxLong. -/
import Derived.Test.YtfnbkcdcdeojfaaDoorCt
set_option linter.unusedVariables false
set_option linter.unusedSimpArgs false
namespace Go.Proofs.YtfnbkcdcdeojfaaDoor
open Go.RowKit Go.Mk Go.Cx
attribute [-go_sem] Builtin.append_

theorem conv_two {W : World} {g : Nat} {v v' : Int} (n n' : Nat) (hn : n < 256) (hn' : n' < 256) (hv : v = n) (hv' : v' = n') (h : W.heap[g]? = some (.cells #[.int .u8 v, .int .u8 v'] 5 (0, 0))) :
    (convert 23 9 (.slice (some ⟨g, 0, none⟩) 2 2)).run Tryd.prog W = .ok (.string ⟨#[UInt8.ofNat n, UInt8.ofNat n']⟩) W := by
  refine run_convert_bytes_back (P := Tryd.prog) W 23 9 5 ⟨g, 0, none⟩ 2 [UInt8.ofNat n, UInt8.ofNat n'] Tryd.underlying23 Tryd.underlying5 Tryd.underlying9 (fun j hj => ?_)
  subst hv hv'
  have hj2 : j = 0 ∨ j = 1 := by simp at hj; omega
  rcases hj2 with rfl | rfl
  · have := cell_of_blk (i := 0) h
    simp [Addr.add] at this ⊢
    rw [this]
    congr 2; omega
  · have := cell_of_blk (i := 1) h
    simp [Addr.add] at this ⊢
    rw [this]
    congr 2; omega
theorem textK_succ {n : Nat} (h : 0 < n) : textK (n + 1) = textK n ++ [44] ++ wordK n := by
  unfold textK
  rw [List.range_succ, List.map_append, List.map_singleton, join_snoc (by simp; omega)]
theorem textK_len : ∀ n : Fin 41, (textK n.1).length ≤ 240 := by decide +kernel

set_option maxRecDepth 100000 in
set_option maxHeartbeats 4000000 in
theorem long_walk (n k : Nat) (m : Int) (w : World) (hn : n < 256) (hk : k < 65536) (hm : w.cell? ⟨0, 0, none⟩ = some (.int .i64 m)) :
    Calls Tryd.prog 9 #[.int .u8 n, .int .u16 k] w fun e w' => e = .returned (.bool true) ∧ Only [] w w' := by
  have e1 : ((n : Int)).tmod 40 = ((n % 40 : Nat) : Int) := by rw [Int.tmod_eq_emod_of_nonneg (by omega)]; omega
  have e3 : (n : Int) % 40 = ((n % 40 : Nat) : Int) := by omega
  have hi : n % 40 < 40 := by omega
  generalize n % 40 = q at *
  have hil : (q : Int) < 40 := by omega
  have Hm := Lib.hid hm
  have Hq := Lib.hid hi
  clear hm hi
  go_enter Tryd.func9, Tryd.ntmps9
  go_wp2_with fail
  clear e1 e3
  go_loopw [6, 7] (fun sv iv wr => ∃ (i : Nat) (s : ByteArray), sv = .string s ∧ iv = .int .i64 i ∧ i ≤ q ∧ s.data.toList = textK i ∧ Only [] w wr) (fun _ iv _ => q - (intOf iv).toNat)
  case atStart => exact ⟨0, ⟨#[]⟩, rfl, rfl, by omega, rfl, Only.refl _ _⟩
  case round =>
    obtain ⟨i, s, rfl, rfl, hi, hs, ho⟩ := hrel
    have hsz : s.size ≤ 240 := by rw [← len_data, hs]; exact textK_len ⟨i, by have := Hq.out; omega⟩
    have Ho := Lib.hid ho
    clear ho
    by_cases hlt : i < q
    · have hq9 := Hq.out
      have g1 : decide (i < q) = true := decide_eq_true hlt
      have m1 : (i : Int) % 26 = ((i % 26 : Nat) : Int) := by omega
      have m2 : (i : Int).tmod 26 = ((i % 26 : Nat) : Int) := by rw [Int.tmod_eq_emod_of_nonneg (by omega)]; omega
      have m3 : (i : Int) / 26 = ((i / 26 : Nat) : Int) := by omega
      have m4 : (i : Int).tdiv 26 = ((i / 26 : Nat) : Int) := by rw [Int.tdiv_eq_ediv_of_nonneg (by omega)]; omega
      have hw : wordK i = [107, UInt8.ofNat (97 + i % 26), UInt8.ofNat (97 + i / 26), 61, 49] := rfl
      have hr1 : i % 26 < 26 := by omega
      have hr2 : i / 26 < 2 := by omega
      generalize i % 26 = a at *
      generalize i / 26 = b at *
      have w1 : IntKind.u8.wrap (97 + (a : Int)) = 97 + a := by rw [IntKind.wrap_u8]; omega
      have w2 : IntKind.u8.wrap (97 + (b : Int)) = 97 + b := by rw [IntKind.wrap_u8]; omega
      have cv1 := conv_two (W := wr.alloc (.cells #[.int .u8 (97 + (a : Int)), .int .u8 (97 + (b : Int))] 5)) (g := wr.heap.size) (v := 97 + (a : Int)) (v' := 97 + (b : Int)) (97 + a) (97 + b) (by omega) (by omega) (by omega) (by omega) (heap_alloc_new _ _)
      obtain ⟨ca, hca⟩ : ∃ c, UInt8.ofNat (97 + a) = c := ⟨_, rfl⟩
      obtain ⟨cb, hcb⟩ : ∃ c, UInt8.ofNat (97 + b) = c := ⟨_, rfl⟩
      rw [hca, hcb] at cv1 hw
      have ha26 : (a : Int) < 26 := by omega
      have hb2 : (b : Int) < 2 := by omega
      have Hs := Lib.hid hs
      have Hw := Lib.hid hw
      clear hs hca hcb hw
      by_cases h0 : 0 < i
      · have g2 : decide (0 < (i : Int)) = true := decide_eq_true (by omega)
        have g3 : decide (0 < i) = true := decide_eq_true h0
        go_wp2_with fail
        refine ⟨⟨i + 1, _, rfl, by go_num, by omega, ?_, Ho.out.alloc _⟩, by simp [intOf]; omega⟩
        rw [textK_succ h0]
        simp only [cat_data, Hw.out, Hs.out]
        simp
      · have g2 : decide (0 < (i : Int)) = false := decide_eq_false (by omega)
        have g3 : decide (0 < i) = false := decide_eq_false h0
        have Hi0 := Lib.hid (show i = 0 by omega)
        clear h0
        go_wp2_with fail
        refine ⟨⟨i + 1, _, rfl, by go_num, by omega, ?_, Ho.out.alloc _⟩, by simp [intOf]; omega⟩
        have hs0 := Hs.out
        rw [Hi0.out] at hs0
        rw [show textK (i + 1) = wordK i by rw [Hi0.out]; rfl]
        rw [show textK 0 = [] from rfl] at hs0
        simp only [cat_data, Hw.out, hs0]
        simp
    · have g1 : decide (i < q) = false := decide_eq_false hlt
      obtain rfl : q = i := by omega
      have hlm := long_many ⟨q, Hq.out⟩
      simp only at hlm
      rw [← hs] at hlm
      have Hlm := Lib.hid hlm
      have Hm1 := Lib.hid (Ho.out.cell Hm.out (by simp))
      have CR := Lib.hid (read_walk s m wr (by omega) Hm1.out)
      clear hlm hs hlt hi
      go_wp2_with fail
      refine CR.out.mono ?_
      rintro e wA ⟨rfl, oA⟩
      rw [Hlm.out]
      obtain ⟨⟨rT, rt, rR, rr⟩, hrd⟩ : ∃ X, (readL s.data.toList).1 = X := ⟨_, rfl⟩
      rw [hrd]
      simp only [mkArr]
      have OA := Lib.hid (Ho.out.trans oA)
      have Hm2 := Lib.hid (oA.cell Hm1.out (by simp))
      clear oA hrd CR Hm1 Ho
      have k1 : (k : Int) % 150 = ((k % 150 : Nat) : Int) := by omega
      have k2 : (k : Int).tmod 150 = ((k % 150 : Nat) : Int) := by rw [Int.tmod_eq_emod_of_nonneg (by omega)]; omega
      have hk1 : k % 150 < 150 := by omega
      generalize k % 150 = x at *
      have hx : (x : Int) < 150 := by omega
      have Hx := Lib.hid hk1
      clear hk1
      obtain ⟨ee, hee⟩ : ∃ ee : Nat, (if q ≤ 32 then 0 else 3) = ee := ⟨_, rfl⟩
      rw [hee]
      have Hee := Lib.hid hee
      clear hee
      go_wp2_with fail
      refine (fill_walk (x + 50) _ (by have := Hx.out; omega)).mono ?_
      rintro e w' ⟨rfl, rfl⟩
      have s1 : (fillS (x + 50)).size ≤ 200 := by rw [fillS_size]; have := Hx.out; omega
      have s2 : (fillS 150).size ≤ 150 := Nat.le_of_eq (fillS_size 150)
      have s3 : (fillS 200).size ≤ 200 := Nat.le_of_eq (fillS_size 200)
      have HL : Hid (((⟨#[97, 61]⟩ : ByteArray) ++ fillS (x + 50) ++ ⟨#[44, 98, 61]⟩ ++ fillS 150 ++ ⟨#[44, 99, 61]⟩ ++ fillS 200).data.toList = longL (x + 50)) := Lib.hid (by
        simp only [cat_data, fillS_data]
        rfl)
      generalize fillS (x + 50) = F1 at *
      go_wp2_with fail
      refine (fill_walk 150 _ (by omega)).mono ?_
      rintro e w' ⟨rfl, rfl⟩
      generalize fillS 150 = F2 at *
      go_wp2_with fail
      refine (fill_walk 200 _ (by omega)).mono ?_
      rintro e w' ⟨rfl, rfl⟩
      generalize fillS 200 = F3 at *
      go_wp2_with fail
      generalize ((⟨#[97, 61]⟩ : ByteArray) ++ F1 ++ ⟨#[44, 98, 61]⟩ ++ F2 ++ ⟨#[44, 99, 61]⟩ ++ F3) = L at *
      have hLl : L.size ≤ 1000 := by
        rw [← len_data, HL.out]
        unfold longL
        have := Hx.out
        simp only [List.length_append, List.length_replicate, List.length_cons, List.length_nil]
        omega
      have hlw := long_wide ⟨x, Hx.out⟩
      simp only at hlw
      rw [← HL.out, len_data] at hlw
      have Hlw := Lib.hid hlw
      have oa : Only [] wA (wA.alloc (.cells #[.bool rT, .int .u64 (rt : Int), .bool rR, .int .u64 (rr : Int)] 29)) := (Only.refl _ _).alloc _
      generalize wA.alloc (.cells #[.bool rT, .int .u64 (rt : Int), .bool rR, .int .u64 (rr : Int)] 29) = wB at *
      have OB := Lib.hid (OA.out.trans oa)
      have Hm3 := Lib.hid (oa.cell Hm2.out (by simp))
      clear hlw oa OA Hm2 HL
      refine (read_walk L m wB (by omega) Hm3.out).mono ?_
      rintro e wC ⟨rfl, oC⟩
      rw [Hlw.out]
      obtain ⟨⟨pT, pt, pR, pr⟩, hrd⟩ : ∃ X, (readL L.data.toList).1 = X := ⟨_, rfl⟩
      rw [hrd]
      simp only [mkArr]
      obtain ⟨ff, hff⟩ : ∃ ff : Nat, (if L.size ≤ 512 then 0 else 3) = ff := ⟨_, rfl⟩
      rw [hff]
      have Hff := Lib.hid hff
      have OC := Lib.hid (OB.out.trans oC)
      have Hm4 := Lib.hid (oC.cell Hm3.out (by simp))
      clear hff hrd oC OB Hm3
      have hfe : (ee = 0 ∧ q ≤ 32) ∨ (ee = 3 ∧ ¬ q ≤ 32) := by have := Hee.out; split at this <;> omega
      have hfl : (ff = 0 ∧ L.size ≤ 512) ∨ (ff = 3 ∧ ¬ L.size ≤ 512) := by have := Hff.out; split at this <;> omega
      go_wp2_with fail
      refine (known04 m _ (((Only.refl [] _).alloc _).cell Hm4.out (by simp))).mono ?_
      rintro e wD ⟨rfl, oD⟩
      have OD := Lib.hid (OC.out.trans (((Only.refl _ _).alloc _).trans oD))
      clear oD
      rcases hfe with ⟨rfl, h1⟩ | ⟨rfl, h1⟩ <;> rcases hfl with ⟨rfl, h2⟩ | ⟨rfl, h2⟩
      all_goals
        first
          | have d1 : decide ((q : Int) ≤ 32) = true := decide_eq_true (by omega)
          | have d1 : decide ((q : Int) ≤ 32) = false := decide_eq_false (by omega)
        first
          | have d2 : decide ((L.size : Int) ≤ 512) = true := decide_eq_true (by omega)
          | have d2 : decide ((L.size : Int) ≤ 512) = false := decide_eq_false (by omega)
        clear h1 h2
        go_wp2_with fail
        go_ret
        exact ⟨rfl, OD.out⟩

end Go.Proofs.YtfnbkcdcdeojfaaDoor
