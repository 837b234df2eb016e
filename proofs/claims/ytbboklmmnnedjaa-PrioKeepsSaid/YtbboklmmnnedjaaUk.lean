/- The law PrioKeeps: tells, walked. -/
import Derived.Test.YtbboklmmnnedjaaUj
import Derived.Test.YtbboklmmnnedjaaMi
set_option linter.unusedVariables false
set_option linter.unusedSimpArgs false
namespace Go.Proofs.Ytbboklmmnnedjaa
open Go.RowKit Go.Mk Go.Pr
attribute [-go_sem] sliced

/-- The weight and the draw of an offer. -/
def offW (Wz : List Nat) (i W : Nat) : Nat := if i < Wz.length then Wz.getD i 0 % 4294967298 else W % 20
def offD (Rz : List Nat) (i V : Nat) : Nat := if i < Rz.length then Rz.getD i 0 else V
/-- Those that are taken. -/
def accTo (Wz Rz : List Nat) (D : List (Nat × Nat)) : Nat → List (Nat × Nat)
  | 0 => []
  | i + 1 =>
    let x := D.getD i (0, 0)
    let y := (offW Wz i x.1, offD Rz i x.2)
    if 1 ≤ y.1 ∧ y.1 ≤ 4294967296 then accTo Wz Rz D i ++ [y] else accTo Wz Rz D i
theorem accTo_len (Wz Rz : List Nat) (D : List (Nat × Nat)) : ∀ i, (accTo Wz Rz D i).length ≤ i
  | 0 => Nat.le_refl _
  | i + 1 => by
    have := accTo_len Wz Rz D i
    unfold accTo
    simp only
    split
    · rw [List.length_append, List.length_singleton]; omega
    · omega
theorem accTo_ok {Wz Rz : List Nat} {D : List (Nat × Nat)} (hR : ∀ x ∈ Rz, x < 18446744073709551616) (hD : ∀ x ∈ D, x.1 < 256 ∧ x.2 < 256) : ∀ i, i ≤ D.length → ∀ x ∈ accTo Wz Rz D i, x.1 ≤ 4294967296 ∧ x.2 < 18446744073709551616
  | 0, _, x, hx => by simp [accTo] at hx
  | i + 1, hi, x, hx => by
    have ih := accTo_ok (Wz := Wz) hR hD i (by omega)
    unfold accTo at hx
    simp only at hx
    split at hx
    · rename_i hc
      rcases List.mem_append.1 hx with h | h
      · exact ih x h
      · rw [List.mem_singleton] at h
        subst h
        refine ⟨hc.2, ?_⟩
        show offD Rz i _ < _
        unfold offD
        split
        · rename_i h1
          have : Rz.getD i 0 ∈ Rz := by
            simp [List.getD, List.getElem?_eq_getElem h1]
          exact hR _ this
        · have h2 : D.getD i (0, 0) ∈ D := by simp [List.getD, List.getElem?_eq_getElem (show i < D.length by omega)]
          have := (hD _ h2).2
          omega
    · exact ih x hx

theorem OffersIn.take {w : World} {a : Option Addr} {D : List (Nat × Nat)} (h : OffersIn w a D) (r c : Nat) (hr : r ≤ D.length) : ∃ A, sliced a 0 r c 2 = .slice A (D.take r).length c ∧ OffersIn w A (D.take r) := by
  have hl : (D.take r).length = r := by rw [List.length_take]; omega
  refine ⟨_, (sliced_eq a 0 r c 2).trans (by rw [hl]; rfl), fun x hx => h.small x (List.mem_of_mem_take hx), fun h0 => ?_⟩
  rw [hl] at h0
  obtain ⟨b, off, he, hb, hc⟩ := h.cells (by omega)
  refine ⟨b, off, ?_, hb, fun i x hx => ?_⟩
  · rw [he]
    split
    · rfl
    · simp [Addr.add]
  · have hi := (List.getElem?_eq_some_iff.1 hx).1
    rw [hl] at hi
    rw [List.getElem?_take_of_lt hi] at hx
    exact hc i x hx

end Go.Proofs.Ytbboklmmnnedjaa
