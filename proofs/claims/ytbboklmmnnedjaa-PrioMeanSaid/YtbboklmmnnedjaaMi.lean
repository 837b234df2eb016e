/- Slices of whole numbers that came in. No program stands in this text. -/
import Derived.Test.YtbboklmmnnedjaaMh
set_option linter.unusedVariables false
set_option linter.unusedSimpArgs false
namespace Go.Mk
open Go.RowKit

/-- A slice of integers that came in, as the shells tell it. -/
def InRow (k : IntKind) (w : World) (a : Option Addr) (len cap : Nat) (zs : List Int) : Prop :=
  (a = none ∧ len = 0 ∧ cap = 0 ∧ zs = []) ∨
  ∃ x, a = some x ∧ len ≤ cap ∧ cap ≤ maxLen ∧ zs.length = cap ∧ (∀ i, i < zs.length → w.cell? (x.add i) = some (.int k (zs.getD i 0))) ∧ ∀ n ∈ zs, (Lit.int k n).wf = true

/-- The elements of such a slice, each in its cell. -/
theorem InRow.cells {k : IntKind} {w : World} {a : Option Addr} {len cap : Nat} {zs : List Int} (h : InRow k w a len cap zs) :
    len ≤ maxLen ∧ (0 < len → ∃ b off, a = some ⟨b, off, none⟩ ∧ b < w.heap.size ∧ ∀ i, i < len → w.cell? ⟨b, off + i, none⟩ = some (.int k (zs.getD i 0)) ∧ (Lit.int k (zs.getD i 0)).wf = true) := by
  rcases h with ⟨rfl, rfl, rfl, rfl⟩ | ⟨⟨b, off, spot⟩, rfl, hl, hm, hz, hcell, hwz⟩
  · exact ⟨by simp [maxLen], fun h => absurd h (by omega)⟩
  · refine ⟨by omega, fun h0 => ?_⟩
    have hc := hcell 0 (by omega)
    have hspot : spot = none := by simpa [Addr.add] using World.cell?_spot hc
    subst hspot
    have hadd : ∀ i, (⟨b, off, none⟩ : Addr).add i = ⟨b, off + i, none⟩ := fun i => by unfold Addr.add; split <;> simp_all
    refine ⟨b, off, rfl, World.block_lt_of_cell? w _ (by simpa [Addr.add] using hc), fun i hi => ⟨by rw [← hadd]; exact hcell i (by omega), ?_⟩⟩
    have hi' : i < zs.length := by omega
    rw [List.getD_eq_getElem?_getD, List.getElem?_eq_getElem hi']
    exact hwz _ (List.getElem_mem hi')

/-- .. as a list of natural numbers. -/
structure NumsIn (k : IntKind) (top : Nat) (w : World) (a : Option Addr) (Z : List Nat) : Prop where
  small : ∀ x ∈ Z, x < top
  cells : 0 < Z.length → ∃ b off, a = some ⟨b, off, none⟩ ∧ b < w.heap.size ∧ ∀ (i x : Nat), Z[i]? = some x → w.cell? ⟨b, off + i, none⟩ = some (.int k (x : Int))

theorem InRow.nums {k : IntKind} {top : Nat} {w : World} {a : Option Addr} {len cap : Nat} {zs : List Int} (h : InRow k w a len cap zs) (hk : ∀ n : Int, (Lit.int k n).wf = true → 0 ≤ n ∧ n < top) :
    ∃ Z, Z.length = len ∧ len ≤ maxLen ∧ NumsIn k top w a Z := by
  obtain ⟨h1, h2⟩ := h.cells
  by_cases h0 : 0 < len
  · obtain ⟨b, off, he, hb, hc⟩ := h2 h0
    obtain ⟨D, hD, hR⟩ := list_of (R := fun i (x : Nat) => x < top ∧ w.cell? ⟨b, off + i, none⟩ = some (.int k x)) len (fun i hi => by
      obtain ⟨h3, h4⟩ := hc i hi
      have hx := hk _ h4
      refine ⟨(zs.getD i 0).toNat, by omega, ?_⟩
      rw [h3, show (((zs.getD i 0).toNat : Nat) : Int) = zs.getD i 0 by omega])
    refine ⟨D, hD, h1, fun x hx => ?_, fun _ => ⟨b, off, he, hb, fun i x hx => (hR i x hx).2⟩⟩
    obtain ⟨i, hi, rfl⟩ := List.getElem_of_mem hx
    exact (hR i _ (List.getElem?_eq_getElem hi)).1
  · exact ⟨[], by simp; omega, h1, by simp, fun h => by simp at h⟩
theorem NumsIn.at {k : IntKind} {top : Nat} {w w' : World} {a : Option Addr} {Z : List Nat} (h : NumsIn k top w a Z) (ho : Only [] w w') {i : Nat} (hi : i < Z.length) : ∃ b off x, a = some ⟨b, off, none⟩ ∧ b < w'.heap.size ∧ Z[i]? = some x ∧ x < top ∧ w'.cell? ⟨b, off + i, none⟩ = some (.int k x) := by
  obtain ⟨b, off, he, hb, hc⟩ := h.cells (by omega)
  have hx : Z[i]? = some Z[i] := List.getElem?_eq_getElem hi
  exact ⟨b, off, Z[i], he, ho.lt hb, hx, h.small _ (List.getElem_mem hi), ho.cell (hc i _ hx) (by simp)⟩
end Go.Mk
