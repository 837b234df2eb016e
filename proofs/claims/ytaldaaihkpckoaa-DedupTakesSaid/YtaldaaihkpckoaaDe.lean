/- The chapter's example of layer 18, walked; what a law's rounds keep of the numbers that came. -/
import Derived.Test.YtaldaaihkpckoaaDd
import Derived.BigQuiet
import Derived.OpenShut
namespace Go.Proofs.Ytaldaaihkpckoaa
open Go.RowKit Go.Mk Go.Dd

/-- A slice of integers that came in, as the shells tell it. -/
def InRow (k : IntKind) (w : World) (a : Option Addr) (len cap : Nat) (zs : List Int) : Prop :=
  (a = none ∧ len = 0 ∧ cap = 0 ∧ zs = []) ∨
  ∃ x, a = some x ∧ len ≤ cap ∧ cap ≤ maxLen ∧ zs.length = cap ∧ (∀ i, i < zs.length → w.cell? (x.add i) = some (.int k (zs.getD i 0))) ∧ ∀ n ∈ zs, (Lit.int k n).wf = true

/-- The elements of such a slice, each in its cell. -/
theorem InRow.cells {k : IntKind} {w : World} {a : Option Addr} {len cap : Nat} {zs : List Int} (h : InRow k w a len cap zs) :
    len ≤ maxLen ∧ (0 < len → ∃ b off, a = some ⟨b, off, none⟩ ∧ b < w.heap.size ∧ ∀ i, i < len → w.cell? ⟨b, off + i, none⟩ = some (.int k (zs.getD i 0)) ∧ (Lit.int k (zs.getD i 0)).wf = true) := by
  rcases h with ⟨rfl, rfl, rfl, rfl⟩ | ⟨⟨b, off, spot⟩, rfl, hl, hm, hz, hcell, hwz⟩
  · exact ⟨by simp [maxLen], fun h => absurd h (by omega)⟩
  · refine ⟨by omega, fun h0 => ?_⟩
    have hc := hcell 0 (by omega)
    have hspot : spot = none := by simpa [Addr.add] using World.cell?_spot hc
    subst hspot
    have hadd : ∀ i, (⟨b, off, none⟩ : Addr).add i = ⟨b, off + i, none⟩ := fun i => by unfold Addr.add; split <;> simp_all
    refine ⟨b, off, rfl, World.block_lt_of_cell? w _ (by simpa [Addr.add] using hc), fun i hi => ⟨by rw [← hadd]; exact hcell i (by omega), ?_⟩⟩
    have hi' : i < zs.length := by omega
    rw [List.getD_eq_getElem?_getD, List.getElem?_eq_getElem hi']
    exact hwz _ (List.getElem_mem hi')

/-- What New made lies in blocks that are none of w0's, nor of X. -/
def Own (w0 : World) (X : List Nat) (w : World) (sp : Nat) (lo : Int) (A : List Int) (most : Nat) : Prop :=
  ∃ F, SeenObj w sp F lo A most ∧ Only [] w0 w ∧ (∀ b ∈ F, w0.heap.size ≤ b ∧ b ∉ X) ∧ ∀ x ∈ X, x < w.heap.size

theorem Own.only {w0 w w' : World} {X S : List Nat} {sp most : Nat} {lo : Int} {A : List Int} (h : Own w0 X w sp lo A most) (ho : Only S w w') (hs : ∀ b ∈ S, b ∈ X) (hs' : ∀ b ∈ S, w0.heap.size ≤ b) : Own w0 X w' sp lo A most := by
  obtain ⟨F, h1, h2, h3, h4⟩ := h
  exact ⟨F, h1.only ho (fun b hb hm => (h3 b hb).2 (hs b hm)), h2.trans' ho (fun x hx hlt => absurd (hs' x hx) (by omega)), h3, fun x hx => ho.lt (h4 x hx)⟩

theorem Own.out {w0 w : World} {X : List Nat} {sp most : Nat} {lo : Int} {A : List Int} (h : Own w0 X w sp lo A most) : Only [] w0 w := by
  obtain ⟨F, h1, h2, h3, h4⟩ := h
  exact h2

theorem Own.ok {w0 w : World} {X : List Nat} {sp most : Nat} {lo : Int} {A : List Int} (h : Own w0 X w sp lo A most) : Ok lo A most := by
  obtain ⟨F, h1, h2, h3, h4⟩ := h
  exact h1.ok

/-- One more block that is none of its own. -/
theorem Own.alloc {w0 w : World} {X : List Nat} {sp most : Nat} {lo : Int} {A : List Int} (h : Own w0 X w sp lo A most) (o : Obj) : Own w0 (w.heap.size :: X) (w.alloc o) sp lo A most := by
  obtain ⟨F, h1, h2, h3, h4⟩ := h
  refine ⟨F, h1.only ((Only.refl [] _).alloc o) (by simp), h2.alloc o, fun b hb => ⟨(h3 b hb).1, ?_⟩, fun x hx => ?_⟩
  · have := h1.lts b hb
    intro hm
    rcases List.mem_cons.1 hm with rfl | hm
    · omega
    · exact (h3 b hb).2 hm
  · rcases List.mem_cons.1 hx with rfl | hx
    · simp
    · have := h4 x hx; simp; omega

theorem own_new (m : Nat) (hm : m ≤ 1000) (w : World) :
    Calls Try.prog 8 #[.int .i64 m] w fun e w' => ∃ sp, e = .returned (.pointer (some ⟨sp, 0, none⟩)) ∧ Own w [] w' sp 0 [] m := by
  refine (seen_new m hm w).mono ?_
  rintro e w' ⟨sp, F, rfl, h1, h2, h3⟩
  exact ⟨sp, rfl, F, h1, h2, fun b hb => ⟨h3 b hb, by simp⟩, by simp⟩

theorem own_Low {w0 w : World} {X : List Nat} {sp most : Nat} {lo : Int} {A : List Int} (h : Own w0 X w sp lo A most) :
    Calls Try.prog 11 #[.pointer (some ⟨sp, 0, none⟩)] w fun e w' => e = .returned (.int .i64 lo) ∧ w = w' := by
  obtain ⟨F, h1, h2, h3, h4⟩ := h
  exact seen_Low h1

theorem own_Ahead {w0 w : World} {X : List Nat} {sp most : Nat} {lo : Int} {A : List Int} (h : Own w0 X w sp lo A most) :
    Calls Try.prog 10 #[.pointer (some ⟨sp, 0, none⟩)] w fun e w' => ∃ p c, e = .returned (.slice p A.length c) ∧ IntsAre w' A (.slice p A.length c) ∧ Own w0 X w' sp lo A most ∧ Only [] w w' := by
  have h' := h
  obtain ⟨F, h1, h2, h3, h4⟩ := h
  refine (seen_Ahead h1).mono ?_
  rintro e w' ⟨rv, rfl, k1, k2, k3⟩
  obtain ⟨p, c, hrv⟩ := k1.form
  rw [List.length_map] at hrv
  subst hrv
  exact ⟨p, c, rfl, k1, h'.only k2 (by simp) (by simp), k2⟩

theorem own_Take {w0 w : World} {X : List Nat} {sp most : Nat} {lo : Int} {A : List Int} (h : Own w0 X w sp lo A most) (k : Int) (hb : lo + A.length ≤ 1000000) {t : Int} (ht : told lo A most k = t) :
    Calls Try.prog 9 #[.pointer (some ⟨sp, 0, none⟩), .int .i64 k] w fun e w' => e = .returned (.int .u8 t) ∧
      ∃ lo' A', NextS lo A most k lo' A' ∧ Own w0 X w' sp lo' A' most ∧ ∀ x ∈ X, w'.heap[x]? = w.heap[x]? := by
  subst ht
  obtain ⟨F, h1, h2, h3, h4⟩ := h
  refine (seen_Take h1 k hb).mono ?_
  rintro e w' ⟨rfl, F', lo', A', k1, k2, k3, k4⟩
  refine ⟨rfl, lo', A', k2, ⟨F', k1, h2.trans' k3 (fun x hx hlt => absurd (h3 x hx).1 (by omega)), fun b hb => ?_, fun x hx => k3.lt (h4 x hx)⟩, fun x hx => k3.block x (h4 x hx) (fun hm => (h3 x hm).2 hx)⟩
  rcases k4 b hb with h5 | h5
  · exact h3 b h5
  · exact ⟨Nat.le_trans h2.size h5, fun hm => absurd (h4 b hm) (by omega)⟩

/-- A fresh one, where the numbers behind it are known. -/
theorem own_TakeN {w0 w : World} {X : List Nat} {sp most : Nat} {lo lo2 : Int} {A A2 : List Int} (h : Own w0 X w sp lo A most) (k : Int) (hb : lo + A.length ≤ 1000000) (ht : told lo A most k = 1) (h2 : Ok lo2 A2 most) (hc : ∀ j, Came lo2 A2 j ↔ Came lo A j ∨ j = k) :
    Calls Try.prog 9 #[.pointer (some ⟨sp, 0, none⟩), .int .i64 k] w fun e w' => e = .returned (.int .u8 1) ∧ Own w0 X w' sp lo2 A2 most := by
  refine (own_Take h k hb ht).mono ?_
  rintro e w' ⟨rfl, lo', A', k1, k2, _⟩
  obtain ⟨rfl, rfl⟩ := next_is k1 ht h2 hc
  exact ⟨rfl, k2⟩

/-- One that is none: nothing changes. -/
theorem own_TakeS {w0 w : World} {X : List Nat} {sp most : Nat} {lo : Int} {A : List Int} (h : Own w0 X w sp lo A most) (k : Int) (hb : lo + A.length ≤ 1000000) {t : Int} (ht : told lo A most k = t) (h1 : t ≠ 1) :
    Calls Try.prog 9 #[.pointer (some ⟨sp, 0, none⟩), .int .i64 k] w fun e w' => e = .returned (.int .u8 t) ∧ Own w0 X w' sp lo A most ∧ ∀ x ∈ X, w'.heap[x]? = w.heap[x]? := by
  refine (own_Take h k hb ht).mono ?_
  rintro e w' ⟨rfl, lo', A', k1, k2, k3⟩
  obtain ⟨rfl, rfl⟩ := k1.else' (by rw [ht]; exact h1)
  exact ⟨rfl, k2, k3⟩

set_option maxRecDepth 100000 in
set_option maxHeartbeats 1000000 in
theorem known18 (w : World) : Calls Try.prog 12 #[] w fun e w' => e = .returned (.bool true) ∧ Only [] w w' := by
  go_enter Try.func12, Try.ntmps12
  go_wp2_with fail
  refine (own_new 1 (by omega) w).mono ?_
  rintro e w1 ⟨sp, rfl, h1⟩
  have H1 := Lib.hid h1
  clear h1
  go_wp2_with fail
  refine (seen_new_nil (-1) (by omega) _).mono ?_
  rintro e w2 ⟨rfl, rfl⟩
  go_wp2_with fail
  refine (seen_new_nil 1001 (by omega) _).mono ?_
  rintro e w2 ⟨rfl, rfl⟩
  go_wp2_with fail
  refine (own_TakeN (lo2 := 0) (A2 := [1]) H1.out 1 (by simp) (by decide) ⟨by omega, by simp, by simp, by simp⟩ (fun j => by simp [Came])).mono ?_
  rintro e w2 ⟨rfl, h2⟩
  have H2 := Lib.hid h2
  clear h2 H1
  go_wp2_with fail
  refine (own_TakeS (t := 3) H2.out 2 (by simp) (by decide) (by omega)).mono ?_
  rintro e w3 ⟨rfl, h3, _⟩
  have H3 := Lib.hid h3
  clear h3 H2
  go_wp2_with fail
  refine (own_TakeN (lo2 := 2) (A2 := []) H3.out 0 (by simp) (by decide) ⟨by omega, by simp, by simp, by simp⟩ (fun j => by simp [Came]; omega)).mono ?_
  rintro e w4 ⟨rfl, h4⟩
  have H4 := Lib.hid h4
  clear h4 H3
  go_wp2_with fail
  refine (own_Low H4.out).mono ?_
  rintro e w5 ⟨rfl, rfl⟩
  go_wp2_with fail
  refine (own_TakeS (t := 2) H4.out 1 (by simp) (by decide) (by omega)).mono ?_
  rintro e w5 ⟨rfl, h5, _⟩
  have H5 := Lib.hid h5
  clear h5 H4
  go_wp2_with fail
  refine (own_Ahead H5.out).mono ?_
  rintro e w6 ⟨p, c, rfl, _, h6, _⟩
  have H6 := Lib.hid h6
  clear h6 H5
  go_wp2_with fail
  go_ret
  exact ⟨rfl, H6.out.out⟩

end Go.Proofs.Ytaldaaihkpckoaa
