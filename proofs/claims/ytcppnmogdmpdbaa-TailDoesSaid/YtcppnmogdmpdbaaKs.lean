/- Slices of deeds of layer 13 that came in: what their cells hold. No program stands in this text but in the last theorem. -/
import Derived.Test.YtcppnmogdmpdbaaKq
import Derived.ChangeSame
set_option linter.unusedVariables false
set_option linter.unusedSimpArgs false
namespace Go.Mk
open Go.RowKit
section
variable {H : Type} {enc : TypeId × Value → H} {P : Program} {w : World} {base : Nat} {spare : Nat → Bool} {held : Bool}

theorem open_structs {t e : TypeId} {fs : Array Field} {K : IntKind} {m fuel : Nat} {cs : List Value} {x : DataW H × List MemPlace} (ht : P.underlying t = some (.slice e)) (he : P.underlying e = some (.struct fs)) (hC : P.cellsOf e = m) (hm : fs.size = m)
    (hf : ∀ (j : Nat) (f : Field), fs[j]? = some f → f.offset = j ∧ P.cellsOf f.type = 1 ∧ P.underlying f.type = some (.int K)) (h : DataW.trod enc P w base spare held fuel t cs = some x) :
    cs = [.slice none 0 0] ∨ ∃ (a : Addr) (len cap : Nat), cs = [.slice (some a) len cap] ∧ len ≤ cap ∧ cap ≤ maxLen ∧ ∀ i, i < len → ∀ j, j < m → ∃ n, w.cell? ((a.add (i * m)).add j) = some (.int K n) ∧ (Lit.int K n).wf = true := by
  rcases DataW.trod_slice ht h with ⟨h0, _⟩ | ⟨a, len, cap, elems, rest, n, _, rfl, _, _, hl, hmx, hlen, hel, _, _⟩
  · exact .inl h0
  refine .inr ⟨a, len, cap, rfl, hl, hmx, fun i hi j hj => ?_⟩
  have h1 := hel i hi
  rw [List.getElem?_eq_getElem (by omega), Option.bind_eq_some_iff, hC] at h1
  obtain ⟨cs', hcs, hy⟩ := h1
  obtain ⟨_, hcl, hcell⟩ := World.cells?_some hcs
  obtain ⟨xs, n', _, _, hl2, hxl, hfld⟩ := DataW.trod_struct he hy
  have hjf : fs[j]? = some (fs[j]'(by omega)) := Array.getElem?_eq_getElem (by omega)
  obtain ⟨ho, hc1, hu⟩ := hf j _ hjf
  have h2 := hfld j _ hjf
  rw [ho, hc1, List.getElem?_eq_getElem (by omega)] at h2
  obtain ⟨q, hq, _, hw⟩ := DataW.trod_int hu h2
  have hdrop : (cs'.drop j).take 1 = [cs'[j]'(by omega)] := by rw [List.drop_eq_getElem_cons (by omega)]; rfl
  rw [hdrop] at hq
  refine ⟨q, ?_, hw⟩
  rw [hcell j hj, List.getElem?_eq_getElem (by omega)]
  exact congrArg some (List.cons.inj hq).1

/-- .. as a slice value that was handed in. -/
theorem structs_in {t e : TypeId} {fs : Array Field} {K : IntKind} {m len cap : Nat} {a : Option Addr} {d : DataW H} {ps : List MemPlace} (ht : P.underlying t = some (.slice e)) (he : P.underlying e = some (.struct fs)) (hC : P.cellsOf e = m) (hm : fs.size = m) (hm0 : 0 < m)
    (hf : ∀ (j : Nat) (f : Field), fs[j]? = some f → f.offset = j ∧ P.cellsOf f.type = 1 ∧ P.underlying f.type = some (.int K)) (h : DataW.Trod enc P w base spare held t (.slice a len cap) d ps) :
    len ≤ maxLen ∧ (0 < len → ∃ b off, a = some ⟨b, off, none⟩ ∧ b < w.heap.size ∧ ∀ i, i < len → ∀ j, j < m → ∃ n, w.cell? ⟨b, off + i * m + j, none⟩ = some (.int K n) ∧ (Lit.int K n).wf = true) := by
  obtain ⟨fuel, hfu⟩ := h
  rcases open_structs ht he hC hm hf hfu with h0 | ⟨⟨b, off, spot⟩, l, c, h0, hl, hmx, hcell⟩
  · simp [Value.cells] at h0
    obtain ⟨rfl, rfl, rfl⟩ := h0
    exact ⟨Nat.zero_le _, fun h => absurd h (by omega)⟩
  · simp [Value.cells] at h0
    obtain ⟨rfl, rfl, rfl⟩ := h0
    refine ⟨by omega, fun h0 => ?_⟩
    obtain ⟨n, hn, _⟩ := hcell 0 h0 0 hm0
    have hspot : spot = none := by simpa [Addr.add] using World.cell?_spot hn
    subst hspot
    refine ⟨b, off, rfl, by have := World.block_lt_of_cell? w _ hn; simpa [Addr.add] using this, fun i hi j hj => ?_⟩
    obtain ⟨n, hn, hw⟩ := hcell i hi j hj
    refine ⟨n, ?_, hw⟩
    rw [← hn]
    congr 1
    unfold Addr.add
    split <;> split <;> simp_all <;> omega
end
end Go.Mk
namespace Go.Proofs.Ytcppnmogdmpdbaa
open Go.RowKit Go.Mk

theorem deeds13_in {H : Type} {enc : TypeId × Value → H} {w : World} {base : Nat} {spare : Nat → Bool} {held : Bool} {a : Option Addr} {len cap : Nat} {d : DataW H} {ps : List MemPlace}
    (h : DataW.Trod enc Try.prog w base spare held 72 (.slice a len cap) d ps) : Deeds13 w a len := by
  have hS : Try.prog.underlying 74 = some (.struct (Try.prog.fieldsOf 74)) := by kernel_rfl
  have hz : (Try.prog.fieldsOf 74).toList.map (fun f => (f.offset, Try.prog.cellsOf f.type, f.type)) = [(0, 1, 5), (1, 1, 5), (2, 1, 5), (3, 1, 5)] := by kernel_rfl
  have hsz : (Try.prog.fieldsOf 74).size = 4 := by kernel_rfl
  obtain ⟨h1, h2⟩ := structs_in (K := .u8) (m := 4) Try.underlying72 hS (by kernel_rfl) hsz (by omega) (fun j f hj => by
    have hj' : (Try.prog.fieldsOf 74).toList[j]? = some f := by rw [Array.getElem?_toList]; exact hj
    have e1 : ((Try.prog.fieldsOf 74).toList.map (fun f => (f.offset, Try.prog.cellsOf f.type, f.type)))[j]? = some (f.offset, Try.prog.cellsOf f.type, f.type) := by rw [List.getElem?_map, hj']; rfl
    rw [hz] at e1
    have hjl : j < 4 := by have := (List.getElem?_eq_some_iff.1 e1).1; simpa using this
    rcases (show j = 0 ∨ j = 1 ∨ j = 2 ∨ j = 3 by omega) with rfl | rfl | rfl | rfl
    all_goals
      simp only [List.getElem?_cons_zero, List.getElem?_cons_succ, Option.some.injEq, Prod.mk.injEq] at e1
      obtain ⟨e2, e3, e4⟩ := e1
      refine ⟨e2.symm, e3.symm, ?_⟩
      rw [← e4]; exact Try.underlying5) h
  refine ⟨h1, fun h0 => ?_⟩
  obtain ⟨b, off, he, hb, hc⟩ := h2 h0
  refine ⟨b, off, he, hb, fun i hi => ?_⟩
  obtain ⟨x, hx, wx⟩ := hc i hi 0 (by omega)
  obtain ⟨y, hy, wy⟩ := hc i hi 1 (by omega)
  obtain ⟨z, hz, wz⟩ := hc i hi 2 (by omega)
  obtain ⟨u, hu, wu⟩ := hc i hi 3 (by omega)
  exact ⟨x, y, z, u, bounds_u8 wx, bounds_u8 wy, bounds_u8 wz, bounds_u8 wu, hx, hy, hz, hu⟩
end Go.Proofs.Ytcppnmogdmpdbaa
