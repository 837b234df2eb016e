/- DedupOnce: the law, walked. -/
import Derived.Test.YtaldaaihkpckoaaDh
namespace Go.Proofs.Ytaldaaihkpckoaa
open Go.RowKit Go.Mk Go.Dd

/-- What is noted of k. -/
def cameI (lo : Int) (A : List Int) (k : Int) : Int := if Came lo A k then 1 else 0

/-- The block of the notes: 64 numbers, each says whether its own came. -/
def Notes (w : World) (b : Nat) (lo : Int) (A : List Int) : Prop := (∀ k : Nat, k < 64 → w.cell? ⟨b, k, none⟩ = some (.int .i64 (cameI lo A k))) ∧ ∀ k : Nat, w.frozen? ⟨b, k, none⟩ = false

theorem cameI_zero (k : Nat) : cameI 0 [] k = 0 := if_neg (fun h => h.elim (fun h1 => by omega) (fun h1 => by cases h1))

theorem zeros_get {n k : Nat} (v : Value) (h : k < n) : (Array.replicate n v)[k]? = some v := by
  rw [Array.getElem?_replicate, if_pos h]

theorem Notes.keep {w w' : World} {b : Nat} {lo : Int} {A : List Int} (h : Notes w b lo A) (hk : w'.heap[b]? = w.heap[b]?) : Notes w' b lo A :=
  ⟨fun k hk' => (World.cell?_of_block (a := ⟨b, k, none⟩) hk).trans (h.1 k hk'), fun k => (World.frozen?_of_block (a := ⟨b, k, none⟩) hk).trans (h.2 k)⟩

theorem Notes.put {w : World} {b most q : Nat} {lo lo' : Int} {A A' : List Int} (h : Notes w b lo A) (hq : q < 64) (hn : NextS lo A most q lo' A') (ht : told lo A most q = 1) : Notes (w.setCell ⟨b, q, none⟩ (.int .i64 1)) b lo' A' := by
  refine ⟨fun k hk => ?_, fun k => by rw [World.frozen?_setCell]; exact h.2 k⟩
  have hc := hn.fresh ht k
  by_cases hkq : k = q
  · subst hkq
    rw [World.cell?_setCell_same _ _ _ (h.1 k hk)]
    unfold cameI
    rw [if_pos (hc.2 (.inr rfl))]
  · rw [World.cell?_setCell_other _ _ _ _ (by simp only [ne_eq, Addr.mk.injEq, true_and, and_true]; exact fun h => hkq h.symm), h.1 k hk]
    unfold cameI
    by_cases h2 : Came lo A k
    · rw [if_pos h2, if_pos (hc.2 (.inl h2))]
    · rw [if_neg h2, if_neg (fun h3 => (hc.1 h3).elim h2 (fun h4 => hkq (by omega)))]

set_option maxRecDepth 100000 in
set_option maxHeartbeats 1000000 in
theorem once_walk (a0 : Int) (a : Option Addr) (len cap : Nat) (zs : List Int) (w : World) (w0 : (Lit.int .u8 a0).wf = true) (h : InRow .u8 w a len cap zs) :
    Calls Try.prog 5 #[.int .u8 a0, .slice a len cap] w fun e w' => e = .returned (.bool true) ∧ Only [] w w' := by
  obtain ⟨h00, h01⟩ := bounds_u8 w0
  obtain ⟨hl, hc⟩ := h.cells
  have HC := Lib.hid hc
  obtain ⟨m, hm⟩ : ∃ m : Nat, a0 % 30 = m := ⟨(a0 % 30).toNat, by omega⟩
  have hm20 : (m : Int) < 30 := by omega
  have hm0 : (0 : Int) ≤ m := by omega
  have hlm : (len : Int) ≤ 9223372036854775807 := by simp only [maxLen] at hl; omega
  have htm : a0.tmod 30 = m := by rw [Int.tmod_eq_emod_of_nonneg h00]; exact hm
  have hm1 : m ≤ 1000 := by omega
  clear hc h hl w0 hm h01
  by_cases h60 : 200 < len
  · have g1 : decide (200 < (len : Int)) = true := by simp; omega
    go_enter Try.func5, Try.ntmps5
    go_wp2_with fail
    refine (own_new m hm1 w).mono ?_
    rintro e w1 ⟨sp, rfl, h1⟩
    have H1 := Lib.hid h1
    clear h1
    go_wp2_with fail
    refine (known18 _).mono ?_
    rintro e w2 ⟨rfl, o2⟩
    have H2 := Lib.hid (H1.out.only o2 (by simp) (by simp)).out
    clear o2 H1
    go_wp2_with fail
    go_ret
    exact ⟨rfl, H2.out⟩
  have g1 : decide (200 < (len : Int)) = false := by simp; omega
  go_enter Try.func5, Try.ntmps5
  go_wp2_with fail
  refine (own_new m hm1 w).mono ?_
  rintro e w1 ⟨sp, rfl, h1⟩
  have H1 := Lib.hid h1
  clear h1
  go_wp2_with fail
  refine (known18 _).mono ?_
  rintro e w2 ⟨rfl, o2⟩
  have H2 := Lib.hid (H1.out.only o2 (by simp) (by simp))
  clear o2 H1
  have hw2 : w.heap.size ≤ w2.heap.size := H2.out.out.size
  go_wp2_with fail
  obtain ⟨c, hcb⟩ : ∃ c, w2.heap.size = c := ⟨_, rfl⟩
  rw [hcb]
  have Hcb := Lib.hid hcb
  rw [hcb] at hw2
  clear hcb
  go_loopw [7, 8] (fun iv _ wr => ∃ (i : Nat) (lo : Int) (A : List Int), iv = .int .i64 i ∧ i ≤ len ∧ Own w [c] wr sp lo A m ∧ Notes wr c lo A ∧ lo + A.length ≤ i) (fun iv _ _ => len - (intOf iv).toNat)
  case atStart =>
    have hcb := Hcb.out
    refine ⟨0, 0, [], rfl, by omega, by rw [← hcb]; exact H2.out.alloc _, ⟨fun k hk => ?_, fun k => ?_⟩, by simp⟩
    · rw [← hcb]
      refine (cell_of_blk (heap_alloc_new w2 _)).trans ((zeros_get (n := 64) (.int .i64 0) hk).trans ?_)
      rw [cameI_zero k]
    · rw [← hcb]; exact frozen_of_blk (heap_alloc_new w2 _)
  case round =>
    obtain ⟨i, lo, A, rfl, hi, hO, hN, hs⟩ := hrel
    have HO := Lib.hid hO
    have HN := Lib.hid hN
    have Hs := Lib.hid hs
    have hcs : c < wr.heap.size := by obtain ⟨F, _, _, _, h4⟩ := hO; exact h4 c (by simp)
    clear hO H2 hs hN
    by_cases hil : i < len
    · obtain ⟨b, off, rfl, hbw, hcell⟩ := HC.out (by omega)
      obtain ⟨x, hx⟩ : ∃ x, zs[i]?.getD 0 = x := ⟨_, rfl⟩
      have hci := HO.out.out.cell (hcell i hil).1 (by simp)
      have hwf := (hcell i hil).2
      rw [List.getD_eq_getElem?_getD, hx] at hci hwf
      obtain ⟨hx0, hx1⟩ := bounds_u8 hwf
      have g2 : decide (i < len) = true := by simpa using hil
      obtain ⟨q, hq⟩ : ∃ q : Nat, x % 64 = q := ⟨(x % 64).toNat, by omega⟩
      have hq64 : (q : Int) < 64 := by omega
      have hq0 : (0 : Int) ≤ q := by omega
      have hxq : x.tmod 64 = q := by rw [Int.tmod_eq_emod_of_nonneg hx0]; exact hq
      clear hcell hwf hx hq
      go_wp2_with fail
      obtain ⟨t, ht⟩ : ∃ t, told lo A m q = t := ⟨_, rfl⟩
      refine (own_Take HO.out q (by have := Hs.out; omega) ht).mono ?_
      rintro e w3 ⟨rfl, lo', A', k1, k2, k3⟩
      have hN3 := HN.out.keep (k3 c (by simp))
      have cq := hN3.1 q (by omega)
      have fq := hN3.2
      have hc3 : c < w3.heap.size := lt_of_cell cq
      have hsum : lo' + A'.length ≤ ((i + 1 : Nat) : Int) := by have := k1.sum; have := Hs.out; omega
      have Hsum := Lib.hid hsum
      have K1 := Lib.hid k1
      have K2 := Lib.hid k2
      have HN3 := Lib.hid hN3
      have Ht := Lib.hid ht
      clear k1 k2 k3 hN3 hsum
      by_cases hcm : Came lo A q
      · have h2 := told_came (most := m) hcm
        rw [h2] at ht
        subst ht
        have hcv : cameI lo A q = 1 := if_pos hcm
        rw [hcv] at cq
        obtain ⟨he1, he2⟩ := K1.out.else' (by rw [h2]; decide)
        have He1 := Lib.hid he1
        have He2 := Lib.hid he2
        clear hcv h2 hcm he1 he2
        go_wp2_with fail
        go_roundw
        case rel => exact ⟨i + 1, lo', A', by go_num, by omega, K2.out, by rw [He1.out, He2.out]; exact HN3.out, Hsum.out⟩
        case measure => simp [intOf]; omega
      · have hcv : cameI lo A q = 0 := if_neg hcm
        rw [hcv] at cq
        by_cases hf : lo < q ∧ m ≤ A.length
        · have h2 := told_full hcm hf
          rw [h2] at ht
          subst ht
          obtain ⟨he1, he2⟩ := K1.out.else' (by rw [h2]; decide)
          have hlen : A'.length = m := by rw [he2]; have := HO.out.ok.cap; omega
          have He1 := Lib.hid he1
          have He2 := Lib.hid he2
          have Hlen := Lib.hid hlen
          clear hcv h2 hcm he1 he2 hf hlen
          go_wp2_with fail
          refine (own_Ahead K2.out).mono ?_
          rintro e w4 ⟨p, cc, rfl, _, h5, o5⟩
          rw [Hlen.out]
          have H5 := Lib.hid h5
          have O5 := Lib.hid o5
          clear h5 o5
          go_wp2_with fail
          go_roundw
          case rel => exact ⟨i + 1, lo', A', by go_num, by omega, H5.out, by rw [He1.out, He2.out]; exact HN3.out.keep (O5.out.block c hc3 (by simp)), Hsum.out⟩
          case measure => simp [intOf]; omega
        · have h2 := told_fresh hcm hf
          rw [h2] at ht
          subst ht
          have H2 := Lib.hid h2
          clear hcv h2 hcm hf
          go_wp2_with fail
          go_roundw
          case rel =>
            refine ⟨i + 1, lo', A', by go_num, by omega, K2.out.only ((Only.refl [c] _).setCell (.inl (by simp)) _) (by simp) (by simpa using hw2), HN3.out.put (by omega) K1.out H2.out, Hsum.out⟩
          case measure => simp [intOf]; omega
    · have g2 : decide (i < len) = false := by simpa using hil
      go_wp2_with fail
      go_ret
      exact ⟨rfl, HO.out.out⟩

end Go.Proofs.Ytaldaaihkpckoaa
