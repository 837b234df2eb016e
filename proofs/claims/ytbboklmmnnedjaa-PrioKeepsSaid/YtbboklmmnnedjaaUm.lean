/- The law PrioKeeps, walked. -/
import Derived.Test.YtbboklmmnnedjaaUl
set_option linter.unusedVariables false
set_option linter.unusedSimpArgs false
namespace Go.Proofs.Ytbboklmmnnedjaa
open Go.RowKit Go.Mk Go.Pr

theorem nums_none (w : World) : NumsIn .u64 18446744073709551616 w none [] := ⟨by simp, fun h => by simp at h⟩

set_option maxRecDepth 100000 in
set_option maxHeartbeats 2000000 in
theorem law_keeps (k8 draws m8 : Nat) (a : Option Addr) (cap : Nat) (D : List (Nat × Nat)) (wa : Option Addr) (wcap : Nat) (Wz : List Nat) (ra : Option Addr) (rcap : Nat) (Rz : List Nat) (w : World)
    (hk : k8 < 256) (hd : draws < 18446744073709551616) (hm : m8 < 256) (hD : OffersIn w a D) (hDm : D.length ≤ maxLen) (hDc : D.length ≤ cap) (hcap : cap ≤ maxLen) (hW : NumsIn .u64 18446744073709551616 w wa Wz) (hWl : Wz.length ≤ maxLen) (hR : NumsIn .u64 18446744073709551616 w ra Rz) (hRl : Rz.length ≤ maxLen) :
    Calls Try.prog 5 #[.int .u8 k8, .int .u64 draws, .int .u8 m8, .slice a D.length cap, .slice wa Wz.length wcap, .slice ra Rz.length rcap] w fun e w' => e = .returned (.bool true) ∧ Only [] w w' := by
  have hK := Lib.hid known_walk
  have Hm := Lib.hid (And.intro hcap (And.intro hWl hRl))
  unfold maxLen at hDm hcap hWl hRl
  by_cases h1 : 40 < D.length
  · have t1 : decide ((40 : Int) < (D.length : Int)) = true := decide_eq_true (by omega)
    have t1' : decide (40 < D.length) = true := decide_eq_true h1
    clear hD hW hR
    go_enter Try.func5, Try.ntmps5
    go_wp2_with fail
    refine (hK.out _).mono ?_
    rintro _ w2 ⟨rfl, o1⟩
    go_wp2_with fail
    go_ret
    exact ⟨rfl, o1⟩
  · have t1 : decide ((40 : Int) < (D.length : Int)) = false := decide_eq_false (by omega)
    have t1' : decide (40 < D.length) = false := decide_eq_false h1
    by_cases h2 : 40 < Rz.length
    · have t2 : decide ((40 : Int) < (Rz.length : Int)) = true := decide_eq_true (by omega)
      have t2' : decide (40 < Rz.length) = true := decide_eq_true h2
      clear hD hW hR
      go_enter Try.func5, Try.ntmps5
      go_wp2_with fail
      refine (hK.out _).mono ?_
      rintro _ w2 ⟨rfl, o1⟩
      go_wp2_with fail
      go_ret
      exact ⟨rfl, o1⟩
    · have t2 : decide ((40 : Int) < (Rz.length : Int)) = false := decide_eq_false (by omega)
      have t2' : decide (40 < Rz.length) = false := decide_eq_false h2
      have hDo : ∀ W, Only [] w W → OffersIn W a D := fun W ho => ⟨hD.small, fun h0 => by
        obtain ⟨b, off, he, hb, hc⟩ := hD.cells h0
        exact ⟨b, off, he, ho.lt hb, fun i x hx => ⟨ho.cell (hc i x hx).1 (by simp), ho.cell (hc i x hx).2 (by simp)⟩⟩⟩
      have hNo : ∀ {W : World} {b : Option Addr} {Z : List Nat}, Only [] w W → NumsIn .u64 18446744073709551616 w b Z → NumsIn .u64 18446744073709551616 W b Z := fun ho h => ⟨h.small, fun h0 => by
        obtain ⟨b, off, he, hb, hc⟩ := h.cells h0
        exact ⟨b, off, he, ho.lt hb, fun i x hx => ho.cell (hc i x hx) (by simp)⟩⟩
      have e1 : ((1 + k8 % 6 : Nat) : Int) = 1 + (k8 : Int) % 6 := by omega
      have e2 : ((m8 % 12 : Nat) : Int) = (m8 : Int) % 12 := by omega
      have T1 : Hid (∀ W, Only [] w W → Calls Try.prog 15 #[.int .i64 (1 + (k8 : Int) % 6), .int .u64 ((m8 : Int) % 12), .slice a D.length cap, .slice none 0 0, .slice none 0 0] W fun e w' => e = .returned (.bool true) ∧ Only [] W w') := Lib.hid (fun W ho => by
        have := tells_walk (1 + k8 % 6) (m8 % 12) a cap D none 0 [] none 0 [] W (by omega) (by omega) (by omega) (hDo W ho) (by omega) hDc Hm.out.1 (nums_none W) (by simp) (nums_none W) (by simp)
        rw [e1, e2] at this
        exact this)
      have T2 : Hid (∀ W, Only [] w W → Calls Try.prog 15 #[.int .i64 (1 + (k8 : Int) % 6), .int .u64 draws, .slice a D.length cap, .slice wa Wz.length wcap, .slice ra Rz.length rcap] W fun e w' => e = .returned (.bool true) ∧ Only [] W w') := Lib.hid (fun W ho => by
        have := tells_walk (1 + k8 % 6) draws a cap D wa wcap Wz ra rcap Rz W (by omega) (by omega) hd (hDo W ho) (by omega) hDc Hm.out.1 (hNo ho hW) Hm.out.2.1 (hNo ho hR) Hm.out.2.2
        rw [e1] at this
        exact this)
      have T3 : Hid (∀ W, Only [] w W → Calls Try.prog 15 #[.int .i64 (1 + (k8 : Int) % 6), .int .u64 0, .slice a D.length cap, .slice none 0 0, .slice ra Rz.length rcap] W fun e w' => e = .returned (.bool true) ∧ Only [] W w') := Lib.hid (fun W ho => by
        have := tells_walk (1 + k8 % 6) 0 a cap D none 0 [] ra rcap Rz W (by omega) (by omega) (by omega) (hDo W ho) (by omega) hDc Hm.out.1 (nums_none W) (by simp) (hNo ho hR) Hm.out.2.2
        rw [e1] at this
        exact this)
      clear hD hW hR hDo hNo e1 e2
      go_enter Try.func5, Try.ntmps5
      go_wp2_with fail
      refine (hK.out _).mono ?_
      rintro _ w2 ⟨rfl, o2⟩
      go_wp2_with fail
      refine (T1.out _ o2).mono ?_
      rintro _ w3 ⟨rfl, o3⟩
      have O3 := Lib.hid (o2.trans o3)
      clear o2 o3
      go_wp2_with fail
      refine (T2.out _ O3.out).mono ?_
      rintro _ w4 ⟨rfl, o4⟩
      have O4 := Lib.hid (O3.out.trans o4)
      clear o4 O3
      go_wp2_with fail
      refine (T3.out _ O4.out).mono ?_
      rintro _ w5 ⟨rfl, o5⟩
      go_wp2_with fail
      go_ret
      exact ⟨rfl, O4.out.trans o5⟩

/-- .. as a row hands it in: with its room. -/
def OffersC (w : World) (a : Option Addr) (len cap : Nat) : Prop := OffersW w a len ∧ len ≤ cap ∧ cap ≤ maxLen

theorem slice_cap {H : Type} {enc : TypeId × Value → H} {P : Program} {w : World} {base : Nat} {spare : Nat → Bool} {held : Bool} {t e : TypeId} {a : Option Addr} {len cap : Nat} {d : DataW H} {ps : List MemPlace} (ht : P.underlying t = some (.slice e))
    (h : DataW.Trod enc P w base spare held t (.slice a len cap) d ps) : len ≤ cap ∧ cap ≤ maxLen := by
  obtain ⟨fuel, hfu⟩ := h
  rcases DataW.trod_slice ht hfu with ⟨h0, _⟩ | ⟨a', len', cap', elems, rest, n, _, h0, _, _, hl, hmx, _⟩
  · simp [Value.cells] at h0
    obtain ⟨rfl, rfl, rfl⟩ := h0
    exact ⟨Nat.le_refl _, by simp [maxLen]⟩
  · simp [Value.cells] at h0
    obtain ⟨rfl, rfl, rfl⟩ := h0
    exact ⟨hl, hmx⟩

theorem offersc_in {H : Type} {enc : TypeId × Value → H} {w : World} {base : Nat} {spare : Nat → Bool} {held : Bool} {a : Option Addr} {len cap : Nat} {d : DataW H} {ps : List MemPlace}
    (h : DataW.Trod enc Try.prog w base spare held 35 (.slice a len cap) d ps) : OffersC w a len cap :=
  ⟨offers_in h, slice_cap Try.underlying35 h⟩

theorem keeps_top (a0 a1 a2 : Int) (a3 : Option Addr) (len3 cap3 : Nat) (a4 : Option Addr) (len4 cap4 : Nat) (z4 : List Int) (a5 : Option Addr) (len5 cap5 : Nat) (z5 : List Int) (w : World)
    (w0 : (Lit.int .u8 a0).wf = true) (w1 : (Lit.int .u64 a1).wf = true) (w2 : (Lit.int .u8 a2).wf = true) (w3 : OffersC w a3 len3 cap3) (w4 : InRow .u64 w a4 len4 cap4 z4) (w5 : InRow .u64 w a5 len5 cap5 z5) :
    Calls Try.prog 5 #[.int .u8 a0, .int .u64 a1, .int .u8 a2, .slice a3 len3 cap3, .slice a4 len4 cap4, .slice a5 len5 cap5] w fun e w' => e = .returned (.bool true) ∧ Only [] w w' := by
  obtain ⟨⟨D, rfl, hDm, hD⟩, hc, hcm⟩ := w3
  obtain ⟨l0, h0⟩ := bounds_u8 w0
  obtain ⟨l1, h1⟩ := bounds_u64 w1
  obtain ⟨l2, h2⟩ := bounds_u8 w2
  obtain ⟨n0, rfl⟩ : ∃ n : Nat, a0 = n := ⟨a0.toNat, by omega⟩
  obtain ⟨n1, rfl⟩ : ∃ n : Nat, a1 = n := ⟨a1.toNat, by omega⟩
  obtain ⟨n2, rfl⟩ : ∃ n : Nat, a2 = n := ⟨a2.toNat, by omega⟩
  obtain ⟨Wz, rfl, hWm, hW⟩ := w4.nums (top := 18446744073709551616) (fun n h => by have := bounds_u64 h; omega)
  obtain ⟨Rz, rfl, hRm, hR⟩ := w5.nums (top := 18446744073709551616) (fun n h => by have := bounds_u64 h; omega)
  exact law_keeps n0 n1 n2 a3 cap3 D a4 cap4 Wz a5 cap5 Rz w (by omega) (by omega) (by omega) hD hDm hc hcm hW hWm hR hRm

end Go.Proofs.Ytbboklmmnnedjaa
