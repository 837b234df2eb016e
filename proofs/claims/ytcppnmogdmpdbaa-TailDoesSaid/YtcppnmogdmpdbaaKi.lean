/- TailRoom: the law, walked. -/
import Derived.Test.YtcppnmogdmpdbaaKh
set_option linter.unusedVariables false
set_option linter.unusedSimpArgs false
namespace Go.Proofs.Ytcppnmogdmpdbaa
open Go.RowKit Go.Mk Go.Hp
attribute [-go_sem] Builtin.append_

section
variable {w0 w : World} {X : List Nat} {tp : Nat} {most wait cache now came : Int} {Kn : Tr → Option Bool} {A : List Ab}
theorem TObj.num (h : TObj w0 X w tp most wait cache now came Kn A) : (A.map (·.tr)).Nodup ∧ (spansA A : Int) ≤ most ∧ 0 ≤ now ∧ now ≤ 1099511627776 ∧ 0 ≤ came ∧ ∀ a ∈ A, a.due ≤ now + wait := by
  obtain ⟨b, Fh, ov, Or, Q, rfl, h4, rfl, _⟩ := h
  have hN := h4.num
  refine ⟨by rw [ab_tr]; exact hN.trs, by rw [← spans_ab]; exact hN.full, hN.now0, hN.now1, hN.came0, fun a ha => ?_⟩
  obtain ⟨q, hq, rfl⟩ := List.mem_map.1 ha
  exact hN.due q hq
end

theorem spans_more (t : Tr) (s : Sp) : ∀ {A : List Ab}, (A.map (·.tr)).Nodup → spansA (A.map (fun a => if a.tr = t then a.more s else a)) = spansA A + if t ∈ A.map (·.tr) then 1 else 0
  | [], _ => by simp [spansA]
  | a :: A, hn => by
    simp only [List.map_cons, List.nodup_cons] at hn
    have ih := spans_more t s hn.2
    simp only [spansA, List.map_cons, List.sum_cons, List.mem_cons] at *
    by_cases h : a.tr = t
    · have hm : t ∉ A.map (·.tr) := by rw [← h]; exact hn.1
      rw [if_pos h, if_pos (.inl h.symm), ih, if_neg hm]
      simp only [Ab.more, List.length_append, List.length_singleton]
      omega
    · rw [if_neg h, ih]
      by_cases hm : t ∈ A.map (·.tr)
      · rw [if_pos hm, if_pos (.inr hm)]; omega
      · rw [if_neg hm, if_neg (by rintro (h1 | h1); exact h h1.symm; exact hm h1)]; omega

theorem spans_take {A : List Ab} (hn : (A.map (·.tr)).Nodup) (came due : Int) (s : Sp) : spansA (takeA A came due s) = spansA A + 1 := by
  unfold takeA
  by_cases h : s.tr ∈ A.map (·.tr)
  · rw [if_pos h, spans_more s.tr s hn, if_pos h]
  · rw [if_neg h]; simp [spansA]

theorem take_due {A : List Ab} {came due d : Int} {s : Sp} (h : ∀ a ∈ A, a.due = d) (hd : due = d) : ∀ a ∈ takeA A came due s, a.due = d := by
  intro a ha
  unfold takeA at ha
  split at ha
  · obtain ⟨x, hx, rfl⟩ := List.mem_map.1 ha
    split
    · exact h x hx
    · exact h x hx
  · rcases List.mem_append.1 ha with ha | ha
    · exact h a ha
    · rw [List.mem_singleton.1 ha]; exact hd

theorem came_le (A : List Ab) (came : Int) (t : Tr) : cameA A came t ≤ came + 1 := by unfold cameA; split <;> omega

theorem rest_all {n : Int} : ∀ {A : List Ab}, (∀ a ∈ A, a.due ≤ n) → restA n A = [] ∧ dueA n A = A
  | [], _ => ⟨rfl, rfl⟩
  | a :: A, h => by
    obtain ⟨h1, h2⟩ := rest_all (A := A) (fun x hx => h x (by simp [hx]))
    have e : decide (a.due ≤ n) = true := decide_eq_true (h a (by simp))
    unfold restA dueA at *
    exact ⟨by rw [List.dropWhile_cons, e]; simpa using h1, by rw [List.takeWhile_cons, e]; simp [h2]⟩
theorem rest_none {n : Int} : ∀ {A : List Ab}, (∀ a ∈ A, n < a.due) → restA n A = A ∧ dueA n A = []
  | [], _ => ⟨rfl, rfl⟩
  | a :: A, h => by
    have e : decide (a.due ≤ n) = false := decide_eq_false (by have := h a (by simp); omega)
    unfold restA dueA
    exact ⟨by rw [List.dropWhile_cons, e]; simp, by rw [List.takeWhile_cons, e]; simp⟩

set_option maxRecDepth 100000 in
set_option maxHeartbeats 2000000 in
theorem troom_walk (a0 : Int) (a : Option Addr) (len cap : Nat) (zs : List Int) (w : World) (w0 : (Lit.int .u8 a0).wf = true) (h : InRow .u8 w a len cap zs) :
    Calls Try.prog 10 #[.int .u8 a0, .slice a len cap] w fun e w' => e = .returned (.bool true) ∧ Only [] w w' := by
  obtain ⟨h00, h01⟩ := bounds_u8 w0
  obtain ⟨hl, hc⟩ := h.cells
  have HC := Lib.hid hc
  obtain ⟨m, hm⟩ : ∃ m : Nat, a0 % 20 = m := ⟨(a0 % 20).toNat, by omega⟩
  have hm20 : (m : Int) < 20 := by omega
  have hm0 : (0 : Int) ≤ m := by omega
  have hlm : (len : Int) ≤ 9223372036854775807 := by simp only [maxLen] at hl; omega
  have htm : a0.tmod 20 = m := by rw [Int.tmod_eq_emod_of_nonneg h00]; exact hm
  clear hc h hl w0 hm h01
  by_cases h60 : 60 < len
  · have g1 : decide (60 < (len : Int)) = true := decide_eq_true (by omega)
    go_enter Try.func10, Try.ntmps10
    go_wp2_with fail
    refine (town_new (1 + (m : Int)) 4 1 (by omega) (by omega) (by omega) (by omega) (by omega) (by omega)).mono ?_
    rintro e w1 ⟨tp, rfl, h1⟩
    have H1 := Lib.hid h1
    clear h1
    go_wp2_with fail
    refine (known13 _).mono ?_
    rintro e w2 ⟨rfl, o2⟩
    have H2 := Lib.hid (H1.out.only o2 (by simp) (by simp)).out
    clear o2 H1
    go_wp2_with fail
    go_ret
    exact ⟨rfl, H2.out⟩
  have g1 : decide (60 < (len : Int)) = false := decide_eq_false (by omega)
  go_enter Try.func10, Try.ntmps10
  go_wp2_with fail
  refine (town_new (1 + (m : Int)) 4 1 (by omega) (by omega) (by omega) (by omega) (by omega) (by omega)).mono ?_
  rintro e w1 ⟨tp, rfl, h1⟩
  have H1 := Lib.hid h1
  clear h1
  go_wp2_with fail
  go_loopw [7, 8, 9, 10, 11] (fun kv _ _ _ _ wr => ∃ (k : Nat) (now came : Int), kv = .int .i64 k ∧ k ≤ 3 ∧ now ≤ 10 * k ∧ came ≤ 60 * k ∧ TObj w [] wr tp (1 + (m : Int)) 4 1 now came (fun _ => none) []) (fun kv _ _ _ _ _ => 3 - (intOf kv).toNat)
  case atStart => exact ⟨0, 0, 0, rfl, by omega, by omega, by omega, H1.out⟩
  case round =>
    obtain ⟨k, now, came, rfl, hk, hnow, hcame, hO⟩ := hrel
    have HO := Lib.hid hO
    clear hO H1
    by_cases hk3 : k < 3
    · have g2 : decide ((k : Int) < 3) = true := decide_eq_true (by omega)
      go_wp2_with fail
      go_loopw [8, 9, 10, 11] (fun mv iv _ _ wr => ∃ (i q : Nat) (now came : Int) (A : List Ab), iv = .int .i64 i ∧ i ≤ len ∧ mv = .int .i64 q ∧ spansA A = q ∧ now ≤ 10 * k ∧ came ≤ 60 * k + i ∧ TObj w [] wr tp (1 + (m : Int)) 4 1 now came (fun _ => none) A ∧ ∀ a ∈ A, a.due = 10 * k + 4) (fun _ iv _ _ _ => len - (intOf iv).toNat)
      case atStart => exact ⟨0, 0, now, came, [], rfl, by omega, rfl, rfl, hnow, by omega, HO.out, by simp⟩
      case round =>
        clear HO hnow hcame
        obtain ⟨i, q, now, came, A, rfl, hi, rfl, hsp, hnow, hcame, hO, hdue⟩ := hrel
        by_cases hil : i < len
        · obtain ⟨b, off, rfl, hbw, hcell⟩ := HC.out (by omega)
          obtain ⟨x, hx⟩ : ∃ x, zs[i]?.getD 0 = x := ⟨_, rfl⟩
          have hci := hO.out.cell (hcell i hil).1 (by simp)
          have hwf := (hcell i hil).2
          rw [List.getD_eq_getElem?_getD, hx] at hci hwf
          obtain ⟨hx0, hx1⟩ := bounds_u8 hwf
          have g3 : decide (i < len) = true := decide_eq_true hil
          have hnum := hO.num
          have hq20 : (q : Int) ≤ 20 := by rw [← hsp]; omega
          have HO := Lib.hid hO
          have Hsp := Lib.hid hsp
          have Hdue := Lib.hid hdue
          have Hnum := Lib.hid hnum
          have Hnow := Lib.hid hnow
          have Hcame := Lib.hid hcame
          clear hO hsp hdue hnum hnow hcame hcell hwf hx
          by_cases hqm : (q : Int) < 1 + (m : Int)
          · have g4 : decide ((q : Int) < 1 + (m : Int)) = true := decide_eq_true hqm
            go_wp2_with fail
            refine (town_take HO.out (10 * (k : Int)) (sp0 0 (x + 1)) Hnow.out (by omega) rfl (by rw [Hsp.out]; exact hqm) (by have := Hcame.out; omega)).mono ?_
            rintro e w3 ⟨rfl, h3, _⟩
            have H3 := Lib.hid h3
            have hs3 : spansA (takeA A came (10 * (k : Int) + 4) (sp0 0 (x + 1))) = q + 1 := by rw [spans_take Hnum.out.1, Hsp.out]
            have Hs3 := Lib.hid hs3
            clear h3 hs3
            go_wp2_with fail
            refine (town_Len H3.out).mono ?_
            rintro e w4 ⟨rfl, rfl⟩
            rw [Hs3.out]
            go_wp2_with fail
            go_roundw
            case rel => exact ⟨i + 1, q + 1, _, _, _, by go_num, by omega, by go_num, Hs3.out, Int.le_refl _, by have := came_le A came (0, x + 1); have := Hcame.out; simp only [sp0]; omega, H3.out, take_due Hdue.out rfl⟩
            case measure => simp [intOf]; omega
          · have g4 : decide ((q : Int) < 1 + (m : Int)) = false := decide_eq_false hqm
            go_wp2_with fail
            refine (town_full HO.out (10 * (k : Int)) (sp0 0 (x + 1)) Hnow.out (by omega) rfl (by rw [Hsp.out]; omega)).mono ?_
            rintro e w3 ⟨rfl, h3, _⟩
            have H3 := Lib.hid h3
            clear h3
            go_wp2_with fail
            refine (town_Len H3.out).mono ?_
            rintro e w4 ⟨rfl, rfl⟩
            rw [Hsp.out]
            go_wp2_with fail
            go_roundw
            case rel => exact ⟨i + 1, q, _, _, _, by go_num, by omega, rfl, Hsp.out, Int.le_refl _, by have := Hcame.out; omega, H3.out, Hdue.out⟩
            case measure => simp [intOf]; omega
        · have g3 : decide (i < len) = false := decide_eq_false hil
          have HO := Lib.hid hO
          have hrest := rest_all (n := 10 * (k : Int) + 4) (A := A) (fun a ha => by rw [hdue a ha]; exact Int.le_refl _)
          have Hrest := Lib.hid hrest
          have Hnow := Lib.hid hnow
          have Hcame := Lib.hid hcame
          clear hO hrest hdue hsp hnow hcame
          go_wp2_with fail
          refine (town_Due HO.out (10 * (k : Int) + 4) (by have := Hnow.out; omega) (by omega)).mono ?_
          rintro e w3 ⟨p, c, G, rfl, _, h3, _⟩
          rw [Hrest.out.1] at h3
          have H3 := Lib.hid h3
          clear h3 HO
          go_wp2_with fail
          refine (town_Len H3.out).mono ?_
          rintro e w4 ⟨rfl, rfl⟩
          rw [show spansA [] = 0 from rfl]
          go_wp2_with fail
          go_roundw
          case rel => exact ⟨k + 1, _, _, by go_num, by omega, by omega, by have := Hcame.out; omega, H3.out⟩
          case measure => simp [intOf]; omega
    · have g2 : decide ((k : Int) < 3) = false := decide_eq_false (by omega)
      go_wp2_with fail
      refine (known13 _).mono ?_
      rintro e w2 ⟨rfl, o2⟩
      have H2 := Lib.hid (HO.out.only o2 (by simp) (by simp)).out
      clear o2 HO
      go_wp2_with fail
      go_ret
      exact ⟨rfl, H2.out⟩

end Go.Proofs.Ytcppnmogdmpdbaa
