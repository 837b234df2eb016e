/- The document's answer of layer 11, walked: order, its loops. -/
import Derived.Test.YtbboklmmnnedjaaUf
set_option linter.unusedVariables false
set_option linter.unusedSimpArgs false
namespace Go.Proofs.Ytbboklmmnnedjaa
open Go.RowKit Go.Mk Go.Pr
attribute [-go_sem] Builtin.append_ sliced

/-- An offer of the reference's row, at a place. -/
theorem one_at {w w' : World} {L : List (Nat × Nat)} {q : Option Addr} {m cap i : Nat} {x : Nat × Nat} {S : List Nat} (h : SliceIs w 93 2 (L.map encR) (.slice q m cap)) (ho : Only S w w') (hn : ∀ b ∈ blockOf (.slice q m cap), b ∉ S) (hx : L[i]? = some x) :
    ∃ g off, q = some ⟨g, off, none⟩ ∧ g < w'.heap.size ∧ w'.cell? ⟨g, off + i * 2, none⟩ = some (.int .u64 x.1) ∧ w'.cell? ⟨g, off + i * 2 + 1, none⟩ = some (.int .u64 x.2) := by
  have hMi2 : (L.map encR)[i]? = some (encR x) := by rw [List.getElem?_map, hx]; rfl
  have hs2 := h.only ho hn
  generalize hV : Value.slice q m cap = Vs at hs2
  have hne : L.map encR ≠ [] := by intro hc; rw [hc] at hMi2; simp at hMi2
  generalize L.map encR = xs at hs2 hne hMi2
  cases hs2 with
  | nil => exact absurd rfl hne
  | @row _ g off cap2 hr =>
    obtain ⟨h5, _, h7⟩ := Value.slice.inj hV
    subst h5
    exact ⟨g, off, rfl, hr.lt, hr.cell (f := 0) hMi2 rfl, hr.cell (f := 1) hMi2 rfl⟩
/-- A number of a row, at a place. -/
theorem int_at {w w' : World} {O : List Nat} {q : Option Addr} {m cap i x : Nat} {S : List Nat} (h : SliceIs w 3 1 (O.map encN) (.slice q m cap)) (ho : Only S w w') (hn : ∀ b ∈ blockOf (.slice q m cap), b ∉ S) (hx : O[i]? = some x) :
    ∃ g off, q = some ⟨g, off, none⟩ ∧ g < w'.heap.size ∧ w'.cell? ⟨g, off + i, none⟩ = some (.int .i64 x) := by
  have hMi2 : (O.map encN)[i]? = some (encN x) := by rw [List.getElem?_map, hx]; rfl
  have hs2 := h.only ho hn
  generalize hV : Value.slice q m cap = Vs at hs2
  have hne : O.map encN ≠ [] := by intro hc; rw [hc] at hMi2; simp at hMi2
  generalize O.map encN = xs at hs2 hne hMi2
  cases hs2 with
  | nil => exact absurd rfl hne
  | @row _ g off cap2 hr =>
    obtain ⟨h5, _, h7⟩ := Value.slice.inj hV
    subst h5
    refine ⟨g, off, rfl, hr.lt, ?_⟩
    have := hr.cell (f := 0) hMi2 rfl
    simpa using this

set_option maxRecDepth 100000 in
set_option maxHeartbeats 4000000 in
theorem order_walk (keep m : Nat) (p : Option Addr) (c : Nat) (L : List (Nat × Nat)) (w : World) (h : SliceIs w 93 2 (L.map encR) (.slice p L.length c)) (hl : L.length ≤ 1000) (hok : ∀ x ∈ L, x.1 < big ∧ x.2 < big) :
    Calls Try.prog 39 #[refV keep m (.slice p L.length c)] w fun e w' => ∃ sv', e = .returned sv' ∧ SliceIs w' 3 1 ((orderN (abL L) L.length).map encN) sv' ∧ Only [] w w' ∧ (∀ b ∈ blockOf sv', w.heap.size ≤ b) := by
  obtain ⟨w1, hw1⟩ : ∃ w1, w1 = w.alloc (.cells #[.int .i64 keep, .int .u64 m, .slice p L.length c] 66) := ⟨_, rfl⟩
  have o1 : Only [] w w1 := by rw [hw1]; exact (Only.refl _ _).alloc _
  have b1 : w1.heap[w.heap.size]? = some (.cells #[.int .i64 keep, .int .u64 m, .slice p L.length c] 66 (0, 0)) := by
    rw [hw1]; exact heap_alloc_new w _
  have hs1 := h.only o1 (by simp)
  have H1 := Lib.hid (And.intro o1 (And.intro b1 (And.intro hs1 hok)))
  have hwl : w.heap.size < w1.heap.size := lt_of_blk b1
  clear o1 b1 hs1 h hok
  unfold refV
  go_enter Try.func39, Try.ntmps39
  go_wp2_with fail
  rw [← hw1]
  go_loopw [3, 4] (fun ov iv wr => ∃ i : Nat, iv = .int .i64 i ∧ i ≤ L.length ∧ SliceIs wr 3 1 ((orderN (abL L) i).map encN) ov ∧ (∀ b ∈ blockOf ov, w1.heap.size ≤ b) ∧ Only [] w1 wr) (fun _ iv _ => L.length - (intOf iv).toNat)
  case atStart => exact ⟨0, rfl, Nat.zero_le _, .nil, by simp [blockOf], Only.refl _ _⟩
  case round =>
    obtain ⟨i, rfl, hi, hov, hbo, ow⟩ := hrel
    have hbw := ow.blk H1.out.2.1 (by simp)
    have c2 : wr.cell? ⟨w.heap.size, 2, none⟩ = some (.slice p L.length c) := by rw [cell_of_blk hbw]; rfl
    by_cases hil : i < L.length
    · obtain ⟨w2, hw2⟩ : ∃ w2, w2 = wr := ⟨_, rfl⟩
      subst hw2
      obtain ⟨O, hO⟩ : ∃ O, O = orderN (abL L) i := ⟨_, rfl⟩
      have hOl : O.length = i := by rw [hO, orderN_len]
      have hOm : ∀ x ∈ O, x < i := fun x hx => by rw [hO] at hx; exact orderN_mem.1 hx
      have hOn : orderN (abL L) (i + 1) = ordI (abL L) i O := by rw [hO]; rfl
      rw [← hO] at hov
      obtain ⟨q, cq, hovf⟩ := hov.form
      rw [List.length_map, hOl] at hovf
      subst hovf
      have H2 := Lib.hid (And.intro hov (And.intro hbo (And.intro ow (And.intro hbw (And.intro hOl (And.intro hOm hOn))))))
      clear hov hbo ow hbw hO hOl hOm hOn hw1
      go_wp2_with fail
      go_loopw [5] (fun kv wr => ∃ k : Nat, kv = .int .i64 k ∧ k ≤ i ∧ (∀ q x, q < k → O[q]? = some x → abL L i x = false) ∧ Only [] w2 wr) (fun kv _ => i - (intOf kv).toNat)
      case atStart => exact ⟨0, rfl, Nat.zero_le _, fun q x hq => by omega, Only.refl _ _⟩
      case round =>
        obtain ⟨k, rfl, hk, hkA, ow2⟩ := hrel
        obtain ⟨hov, hbo, ow, hbw, hOl, hOm, hOn⟩ := H2.out
        have c2' : wr.cell? ⟨w.heap.size, 2, none⟩ = some (.slice p L.length c) := ow2.cell c2 (by simp)
        have hwl2 : w.heap.size < wr.heap.size := ow2.lt (ow.lt hwl)
        have hcase : (k = i) ∨ (k < i ∧ ∃ x, O[k]? = some x ∧ x < i) := by
          rcases Nat.lt_or_ge k i with h1 | h1
          · have h2 : O[k]? = some (O[k]'(by omega)) := List.getElem?_eq_getElem (by omega)
            exact .inr ⟨h1, _, h2, hOm _ (List.getElem_mem _)⟩
          · exact .inl (by omega)
        rcases hcase with hke | ⟨hkl, x, hx, hxi⟩
        · have c3' := c2'
          have tk : decide ((k : Int) < (i : Int)) = false := decide_eq_false (by omega)
          have tk' : decide (k < i) = false := decide_eq_false (by omega)
          have hord : ordI (abL L) i O = O.take k ++ i :: O.drop k := ordI_at (by omega) hkA (fun x hx => by
            have := (List.getElem?_eq_some_iff.1 hx).1
            omega)
          have HQ := Lib.hid (And.intro ow2 hord)
          have hkl : k ≤ i := hk
          clear hord ow2 hkA hov hbo ow hbw hOl hOm hOn hke
          go_wp2_with fail
          go_quiet (fail)
          obtain ⟨hov, hbo, ow, hbw, hOl, hOm, hOn⟩ := H2.out
          obtain ⟨g1, c1, v1, g2, off2, c2v, v2, g3v, c3, v3, ha1, ha2, ha3, hs3, o3, hb3⟩ := order_built (k := k) (i := i) (hov.only (HQ.out.1.drewN nq) (by simp)) (by omega) (by omega)
          rw [← HQ.out.2, ← hOn, hOl] at hs3
          have hfit := hov.fits
          rw [List.length_map, hOl] at hfit
          have hkc : k ≤ cq := by omega
          have hkc' : (k : Int) ≤ (cq : Int) := by omega
          rw [hOl] at ha3 hb3
          have hb3' : ∀ x ∈ blockOf (.slice g3v (i + 1) c3), w1.heap.size ≤ x := fun x hx => by
            have h1 := hb3 x hx
            have h2 := (ow.trans (HQ.out.1.drewN nq)).size
            omega
          have oE := (ow.trans (HQ.out.1.drewN nq)).trans o3
          have HE := Lib.hid (And.intro hs3 (And.intro hb3' oE))
          clear hs3 hb3 hb3' oE o3 hov hbo ow hbw hOl hOm hOn
          go_wp2_with fail
          go_roundw
          case rel => exact ⟨i + 1, by go_num, by omega, HE.out.1, HE.out.2.1, HE.out.2.2⟩
          case measure => simp [intOf]; omega
        · obtain ⟨y, hy⟩ : ∃ y, L[i]? = some y := ⟨_, List.getElem?_eq_getElem hil⟩
          obtain ⟨z, hz⟩ : ∃ z, L[x]? = some z := ⟨_, List.getElem?_eq_getElem (by omega)⟩
          obtain ⟨g, off, rfl, hg, k0, k1⟩ := one_at H1.out.2.2.1 (ow.trans ow2) (by simp) hy
          obtain ⟨g', off', he, _, k2, k3⟩ := one_at H1.out.2.2.1 (ow.trans ow2) (by simp) hz
          cases he
          obtain ⟨g3, off3, rfl, hg3, k4⟩ := int_at hov ow2 (by simp) hx
          have hAb := abL_of hy hz
          have hyo := H1.out.2.2.2 y (List.mem_of_getElem? hy)
          have hzo := H1.out.2.2.2 z (List.mem_of_getElem? hz)
          have R := fun Wd => rabove_walk y.1 y.2 z.1 z.2 Wd hyo.1 hyo.2 hzo.1 hzo.2
          rw [← hAb] at R
          have tk : decide ((k : Int) < (i : Int)) = true := decide_eq_true (by omega)
          have tk' : decide (k < i) = true := decide_eq_true hkl
          have hxl : (x : Int) < (L.length : Int) := by omega
          by_cases hA : abL L i x = true
          · rw [hA] at R
            have HR := Lib.hid R
            have hord : ordI (abL L) i O = O.take k ++ i :: O.drop k := ordI_at (by omega) hkA (fun x' hx' => by
              rw [hx] at hx'
              cases hx'
              exact hA)
            have HQ := Lib.hid (And.intro ow2 hord)
            clear R hord ow2 hA hAb hyo hzo hy hz hx hkA hov hbo ow hbw hOl hOm hOn
            go_wp2_with fail
            go_quiet ((go_at_call 17; exact Calls.quiet_of_same (HR.out _)))
            obtain ⟨hov, hbo, ow, hbw, hOl, hOm, hOn⟩ := H2.out
            obtain ⟨g1, c1, v1, g2, off2, c2v, v2, g3v, c3, v3, ha1, ha2, ha3, hs3, o3, hb3⟩ := order_built (k := k) (i := i) (hov.only (HQ.out.1.drewN nq) (by simp)) (by omega) (by omega)
            rw [← HQ.out.2, ← hOn, hOl] at hs3
            have hfit := hov.fits
            rw [List.length_map, hOl] at hfit
            have hkc : k ≤ cq := by omega
            have hkc' : (k : Int) ≤ (cq : Int) := by omega
            rw [hOl] at ha3 hb3
            have hb3' : ∀ x ∈ blockOf (.slice g3v (i + 1) c3), w1.heap.size ≤ x := fun x hx => by
              have h1 := hb3 x hx
              have h2 := (ow.trans (HQ.out.1.drewN nq)).size
              omega
            have oE := (ow.trans (HQ.out.1.drewN nq)).trans o3
            have HE := Lib.hid (And.intro hs3 (And.intro hb3' oE))
            clear hs3 hb3 hb3' oE o3 hov hbo ow hbw hOl hOm hOn
            go_wp2_with fail
            go_roundw
            case rel => exact ⟨i + 1, by go_num, by omega, HE.out.1, HE.out.2.1, HE.out.2.2⟩
            case measure => simp [intOf]; omega
          · have hA2 : abL L i x = false := by simpa using hA
            rw [hA2] at R
            have HR := Lib.hid R
            have hnext : ∀ q x, q < k + 1 → O[q]? = some x → abL L i x = false := by
              intro q x' hq hx'
              rcases Nat.lt_or_ge q k with h1 | h1
              · exact hkA q x' h1 hx'
              · have : q = k := by omega
                subst this
                rw [hx] at hx'
                cases hx'
                exact hA2
            have HN := Lib.hid (And.intro hnext ow2)
            clear R hnext ow2 hA hA2 hAb hyo hzo hy hz hx hkA hov hbo ow hbw hOl hOm hOn
            go_wp2_with fail
            go_quiet ((go_at_call 17; exact Calls.quiet_of_same (HR.out _)))
            go_wp2_with fail
            go_roundw
            case rel => exact ⟨k + 1, by go_num, by omega, HN.out.1, HN.out.2.drewN _⟩
            case measure => simp [intOf]; omega
    · have hie : i = L.length := by omega
      subst hie
      have HE := Lib.hid (And.intro hov (And.intro hbo ow))
      clear hov hbo ow
      go_wp2_with fail
      go_ret
      exact ⟨_, rfl, HE.out.1, H1.out.1.trans HE.out.2.2, fun b hb => Nat.le_trans H1.out.1.size (HE.out.2.1 b hb)⟩

end Go.Proofs.Ytbboklmmnnedjaa
