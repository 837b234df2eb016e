/- taken, walked: the places of the spans that came out. -/
import Derived.Test.YtcppnmogdmpdbaaKn
set_option linter.unusedVariables false
set_option linter.unusedSimpArgs false
namespace Go.Proofs.Ytcppnmogdmpdbaa
open Go.RowKit Go.Mk Go.Hp
attribute [-go_sem] Builtin.append_

/-- The beginnings of all spans. -/
def startsA (A : List Ab) : List Int := A.flatMap fun a => a.sps.map (·.st)
/-- A trace's spans are its own, and rise. -/
def Rises (a : Ab) : Prop := (∀ s ∈ a.sps, s.tr = a.tr) ∧ (a.sps.map (·.st)).Pairwise (· < ·)

theorem starts_step {D : List Ab} {i : Nat} {a : Ab} (h : D[i]? = some a) : startsA (D.take (i + 1)) = startsA (D.take i) ++ a.sps.map (·.st) := by
  rw [List.take_add_one, h]
  simp [startsA]
theorem len_le {D : List Ab} {i k : Nat} {a : Ab} (h : D[i]? = some a) : (startsA (D.take i)).length + ((a.sps.take k).map (·.st)).length ≤ (startsA D).length := by
  have h1 : (startsA (D.take (i + 1))).length ≤ (startsA D).length := by
    have h2 : startsA D = startsA (D.take (i + 1)) ++ startsA (D.drop (i + 1)) := by
      unfold startsA
      rw [← List.flatMap_append, List.take_append_drop]
    rw [h2, List.length_append]
    omega
  rw [starts_step h, List.length_append] at h1
  have h3 : ((a.sps.take k).map (·.st)).length ≤ (a.sps.map (·.st)).length := by
    rw [List.length_map, List.length_map, List.length_take]
    omega
  omega

theorem Groups.only {w w' : World} {gv : Value} {D : List Ab} {G : List Wr} (h : Groups w gv D G) (ho : Only [] w w') : Groups w' gv D G :=
  ⟨h.ab, h.sl.only ho (by simp), fun q hq => (h.sp q hq).only ho (by simp)⟩

set_option maxRecDepth 100000 in
set_option maxHeartbeats 4000000 in
theorem taken_walk {w : World} {p : Option Addr} {c : Nat} {D : List Ab} {G : List Wr} (h : Groups w (.slice p D.length c) D G) (hr : ∀ a ∈ D, Rises a) (hlen : (startsA D).length ≤ 800) (hD : D.length ≤ 800) :
    Calls Try.prog 34 #[.slice p D.length c] w fun e w' => ∃ q c', e = .returned (.slice q (startsA D).length c') ∧ SliceIs w' 3 1 ((startsA D).map encI) (.slice q (startsA D).length c') ∧ Only [] w w' ∧ ∀ x ∈ blockOf (.slice q (startsA D).length c'), w.heap.size ≤ x := by
  have H := Lib.hid h
  have Hr := Lib.hid hr
  have Hlen := Lib.hid hlen
  have hDm : (D.length : Int) ≤ 800 := by omega
  clear h hr hlen hD
  go_enter Try.func34, Try.ntmps34
  go_wp2_with fail
  go_loopw [3, 4, 5, 6] (fun ov iv _ _ wr => ∃ (i : Nat) (sv : Value), iv = .int .i64 i ∧ i ≤ D.length ∧ sv = ov ∧ SliceIs wr 3 1 ((startsA (D.take i)).map encI) sv ∧ Only [] w wr ∧ ∀ x ∈ blockOf sv, w.heap.size ≤ x) (fun _ iv _ _ _ => D.length - (intOf iv).toNat)
  case atStart => exact ⟨0, .slice none 0 0, rfl, by omega, rfl, by rw [List.take_zero]; exact .nil, Only.refl _ _, by simp [blockOf]⟩
  case round =>
    obtain ⟨i, sv, rfl, hi, rfl, hsl, ho, hb⟩ := hrel
    obtain ⟨sp, sc, hsv⟩ := hsl.form
    rw [List.length_map] at hsv
    subst hsv
    by_cases hil : i < D.length
    · have g1 : decide (i < D.length) = true := decide_eq_true hil
      obtain ⟨a, ha⟩ : ∃ a, D[i]? = some a := ⟨_, List.getElem?_eq_getElem hil⟩
      have Ha := Lib.hid ha
      have hra := Hr.out a (List.mem_of_getElem? ha)
      have Hra := Lib.hid hra
      have Hsl := Lib.hid hsl
      have Ho := Lib.hid ho
      have Hb := Lib.hid hb
      have hal : a.sps.length ≤ 800 := by
        have h1 := len_le (k := a.sps.length) ha
        have h2 := Hlen.out
        rw [List.take_length, List.length_map] at h1
        omega
      have halI : (a.sps.length : Int) ≤ 800 := by omega
      clear ha hra hsl ho hb hal
      go_wp2_with fail
      go_loopw [3, 5, 6] (fun ov kv _ wr => ∃ (k : Nat) (sv : Value), kv = .int .i64 k ∧ k ≤ a.sps.length ∧ sv = ov ∧ SliceIs wr 3 1 ((startsA (D.take i) ++ (a.sps.take k).map (·.st)).map encI) sv ∧ Only [] w wr ∧ ∀ x ∈ blockOf sv, w.heap.size ≤ x) (fun _ kv _ _ => a.sps.length - (intOf kv).toNat)
      case atStart => exact ⟨0, _, rfl, by omega, rfl, by rw [List.take_zero]; simpa using Hsl.out, Ho.out, Hb.out⟩
      case round =>
        clear Hsl Ho Hb
        obtain ⟨k, sv, rfl, hk, rfl, hsl, ho, hb⟩ := hrel
        obtain ⟨sp, sc, hsv⟩ := hsl.form
        rw [List.length_map] at hsv
        obtain ⟨n, hn⟩ : ∃ n, (startsA (D.take i) ++ (a.sps.take k).map (·.st)).length = n := ⟨_, rfl⟩
        have hn8 : n ≤ 800 := by
          have h1 := len_le (k := k) Ha.out
          have h2 := Hlen.out
          rw [← hn, List.length_append]
          omega
        rw [hn] at hsv
        subst hsv
        by_cases hkl : k < a.sps.length
        · have g2 : decide (k < a.sps.length) = true := decide_eq_true hkl
          obtain ⟨s, hs⟩ : ∃ s, a.sps[k]? = some s := ⟨_, List.getElem?_eq_getElem hkl⟩
          obtain ⟨g, off, g2, off2, pc, rfl, hg, hg2, x0, x1, x2, xs⟩ := (H.out.only ho).span Ha.out hs
          have htr : s.tr = a.tr := Hra.out.1 s (List.mem_of_getElem? hs)
          have y0 := xs k s hs 0 _ rfl
          have y1 := xs k s hs 1 _ rfl
          have y2 := xs k s hs 2 _ rfl
          have y3 := xs k s hs 3 _ rfl
          have y4 := xs k s hs 4 _ rfl
          have y5 := xs k s hs 5 _ rfl
          have y6 := xs k s hs 6 _ rfl
          have y7 := xs k s hs 7 _ rfl
          have y8 := xs k s hs 8 _ rfl
          have y9 := xs k s hs 9 _ rfl
          rw [Nat.add_zero] at y0
          rw [htr] at y0 y1
          have Hprev : Hid (∀ j, k = j + 1 → ∃ t : Sp, a.sps[j]? = some t ∧ t.st < s.st ∧ wr.cell? ⟨g2, off2 + j * 10 + 5, none⟩ = some (.int .i64 t.st)) := Lib.hid (by
            rintro j rfl
            have hj : j < a.sps.length := by omega
            refine ⟨a.sps[j], List.getElem?_eq_getElem hj, ?_, xs j _ (List.getElem?_eq_getElem hj) 5 _ rfl⟩
            have h5 := List.pairwise_iff_getElem.1 Hra.out.2 j (j + 1) (by rw [List.length_map]; omega) (by rw [List.length_map]; omega) (by omega)
            rw [List.getElem_map, List.getElem_map] at h5
            have h6 : a.sps[j + 1] = s := (List.getElem?_eq_some_iff.1 hs).2
            rw [h6] at h5
            exact h5)
          have Hstep : Hid (startsA (D.take i) ++ (a.sps.take (k + 1)).map (·.st) = (startsA (D.take i) ++ (a.sps.take k).map (·.st)) ++ [s.st]) := Lib.hid (by rw [List.take_add_one, hs]; simp)
          have Hsl := Lib.hid hsl
          have Ho := Lib.hid ho
          have Hb := Lib.hid hb
          have Hn := Lib.hid hn
          clear hs xs htr hsl ho hb hn
          have B8 := heap_alloc_new wr (.cells #[.int .u64 a.tr.1, .int .u64 a.tr.2, .int .u64 s.id, .int .u64 s.par, .string s.nm, .int .i64 s.st, .int .i64 s.en, .bool s.bad, .slice none 0 0, .int .u64 s.rv] 65)
          have o8 : Only [] wr (wr.alloc (.cells #[.int .u64 a.tr.1, .int .u64 a.tr.2, .int .u64 s.id, .int .u64 s.par, .string s.nm, .int .i64 s.st, .int .i64 s.en, .bool s.bad, .slice none 0 0, .int .u64 s.rv] 65)) := (Only.refl [] _).alloc _
          have O8 := Lib.hid o8
          have HB8 := Lib.hid B8
          clear o8 B8
          go_wp2_with fail
          generalize wr.alloc (.cells #[.int .u64 a.tr.1, .int .u64 a.tr.2, .int .u64 s.id, .int .u64 s.par, .string s.nm, .int .i64 s.st, .int .i64 s.en, .bool s.bad, .slice none 0 0, .int .u64 s.rv] 65) = w1 at *
          have hg1 : g < w1.heap.size := O8.out.lt hg
          have hg21 : g2 < w1.heap.size := O8.out.lt hg2
          replace x0 := O8.out.cell x0 (by simp)
          replace x1 := O8.out.cell x1 (by simp)
          replace x2 := O8.out.cell x2 (by simp)
          have Hwr : Hid (w.heap.size ≤ wr.heap.size) := Lib.hid Ho.out.size
          generalize wr.heap.size = b8 at *
          have k0 : w1.cell? ⟨b8, 0, none⟩ = some (.int .u64 a.tr.1) := by rw [cell_of_blk HB8.out]; rfl
          have k1 : w1.cell? ⟨b8, 1, none⟩ = some (.int .u64 a.tr.2) := by rw [cell_of_blk HB8.out]; rfl
          have k5 : w1.cell? ⟨b8, 5, none⟩ = some (.int .i64 s.st) := by rw [cell_of_blk HB8.out]; rfl
          have hb8 : b8 < w1.heap.size := lt_of_blk HB8.out
          clear y0 y1 y2 y3 y4 y5 y6 y7 y8 y9 hg hg2
          rcases Nat.eq_zero_or_pos k with hk0 | hk0
          · subst hk0
            clear Hprev
            go_quiet (fail)
            have o2 : Only [] w1 (w1.drewN nq) := (Only.refl [] _).drewN _
            have Hsl2 := Lib.hid ((Hsl.out.only O8.out (by simp)).only o2 (by simp))
            have O2 := Lib.hid ((Ho.out.trans O8.out).trans o2)
            have Hsz : Hid (b8 ≤ (w1.drewN nq).heap.size) := Lib.hid (Nat.le_trans (Nat.le_of_lt hb8) o2.size)
            replace k5 := o2.cell k5 (by simp)
            replace hb8 := o2.lt hb8
            clear o2 Hsl Ho O8 HB8 k0 k1 x0 x1 x2 
            generalize w1.drewN nq = w2 at *
            obtain ⟨g5, off5, cap5, w5, hap, hsl5, o5, hg5⟩ := int_append1 Hsl2.out (by rw [Hn.out]; omega) s.st
            rw [Hn.out] at hap hsl5
            rw [← Hstep.out] at hsl5
            have Hsl5 := Lib.hid hsl5
            have Hb5 : Hid (w.heap.size ≤ g5) := Lib.hid (hg5.elim (fun h => Hb.out g5 h) (fun h => by have := Hsz.out; have := Hwr.out; omega))
            have O5 : Hid (Only [] w w5) := Lib.hid (O2.out.trans' o5 (fun x hx hlt => absurd (Hb.out x hx) (by omega)))
            clear hsl5 o5 hg5 Hsl2 O2 Hstep Hn
            go_wp2_with fail
            go_roundw
            case rel => exact ⟨0 + 1, _, by go_num, by omega, rfl, Hsl5.out, O5.out, fun x hx => by simp only [blockOf, List.mem_singleton] at hx; rw [hx]; exact Hb5.out⟩
            case measure => simp [intOf]; omega
          · obtain ⟨j, rfl⟩ : ∃ j, k = j + 1 := ⟨k - 1, by omega⟩
            obtain ⟨t, ht1, ht2, ht3⟩ := Hprev.out j rfl
            have g3 : decide (s.st ≤ t.st) = false := decide_eq_false (by omega)
            have hjl : j < a.sps.length := by omega
            replace ht3 := O8.out.cell ht3 (by simp)
            clear ht1 ht2
            go_quiet (fail)
            have o2 : Only [] w1 (w1.drewN nq) := (Only.refl [] _).drewN _
            have Hsl2 := Lib.hid ((Hsl.out.only O8.out (by simp)).only o2 (by simp))
            have O2 := Lib.hid ((Ho.out.trans O8.out).trans o2)
            have Hsz : Hid (b8 ≤ (w1.drewN nq).heap.size) := Lib.hid (Nat.le_trans (Nat.le_of_lt hb8) o2.size)
            replace k5 := o2.cell k5 (by simp)
            replace hb8 := o2.lt hb8
            clear o2 Hsl Ho O8 HB8 k0 k1 x0 x1 x2 ht3 g3
            generalize w1.drewN nq = w2 at *
            obtain ⟨g5, off5, cap5, w5, hap, hsl5, o5, hg5⟩ := int_append1 Hsl2.out (by rw [Hn.out]; omega) s.st
            rw [Hn.out] at hap hsl5
            rw [← Hstep.out] at hsl5
            have Hsl5 := Lib.hid hsl5
            have Hb5 : Hid (w.heap.size ≤ g5) := Lib.hid (hg5.elim (fun h => Hb.out g5 h) (fun h => by have := Hsz.out; have := Hwr.out; omega))
            have O5 : Hid (Only [] w w5) := Lib.hid (O2.out.trans' o5 (fun x hx hlt => absurd (Hb.out x hx) (by omega)))
            clear hsl5 o5 hg5 Hsl2 O2 Hstep Hn
            go_wp2_with fail
            go_roundw
            case rel => exact ⟨j + 1 + 1, _, by go_num, by omega, rfl, Hsl5.out, O5.out, fun x hx => by simp only [blockOf, List.mem_singleton] at hx; rw [hx]; exact Hb5.out⟩
            case measure => simp [intOf]; omega
        · have g2 : decide (k < a.sps.length) = false := decide_eq_false hkl
          have hk2 : k = a.sps.length := by omega
          have Hsl : Hid (SliceIs wr 3 1 ((startsA (D.take (i + 1))).map encI) (.slice sp n sc)) := Lib.hid (by rw [starts_step Ha.out]; rw [hk2, List.take_length] at hsl; exact hsl)
          have Ho := Lib.hid ho
          have Hb := Lib.hid hb
          obtain ⟨gg, off, pa, pc, q, rfl, hg, _, _, _, x0, x1, x2⟩ := (H.out.only ho).cell (i := i) Ha.out
          clear hsl ho hb hn hk2 x0 x1
          go_wp2_with fail
          go_roundw
          case rel => exact ⟨i + 1, _, by go_num, by omega, rfl, Hsl.out, Ho.out, Hb.out⟩
          case measure => simp [intOf]; omega
    · have g1 : decide (i < D.length) = false := decide_eq_false hil
      have hi2 : i = D.length := by omega
      have hlen2 : (startsA (D.take i)).length = (startsA D).length := by rw [hi2, List.take_length]
      rw [hlen2] at hsl hb ⊢
      rw [hi2, List.take_length] at hsl
      have Hsl := Lib.hid hsl
      have Ho := Lib.hid ho
      have Hb := Lib.hid hb
      clear hsl ho hb hlen2 hi2
      go_wp2_with fail
      go_ret
      exact ⟨_, _, rfl, Hsl.out, Ho.out, Hb.out⟩

end Go.Proofs.Ytcppnmogdmpdbaa
