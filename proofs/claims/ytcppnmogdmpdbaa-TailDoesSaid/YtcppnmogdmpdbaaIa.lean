/- telemeter/heap's Heap: Drop and Due, walked. -/
import Derived.Test.YtcppnmogdmpdbaaHz
import Derived.Deep.LoopGhost
set_option linter.unusedVariables false
set_option linter.unusedSimpArgs false
namespace Go.Proofs.Ytcppnmogdmpdbaa
open Go.RowKit Go.Mk Go.Hp
attribute [-go_sem] Builtin.append_

set_option maxRecDepth 100000 in
set_option maxHeartbeats 1000000 in
theorem heap_Drop {w : World} {hp : Nat} {F : List Nat} {most : Int} {S : List Tm} (h : HeapObj w hp F most S) (no : Int) :
    Calls Try.prog 20 #[.pointer (some ⟨hp, 0, none⟩), .int .i64 no] w fun e w' => e = .returned (.bool (hasT no S)) ∧ HeapObj w' hp F most (dropT no S) ∧ Only F w w' := by
  have Hh := Lib.hid h
  obtain ⟨bm, sv, L, hR, hH, hP, rfl⟩ := h.mem
  obtain ⟨ms, clock, hm, hpos⟩ := hR.mp
  have hum : Try.prog.underlying 95 = some (.map 3 3) := by kernel_rfl
  have hui : Try.prog.underlying 3 = some (.int .i64) := by kernel_rfl
  have hlk := run_lookup_ok hum (keyOk_int hui) (z := .int .i64 0) (by kernel_rfl) hm no
  have hhas := hasT_get hpos hP no
  have c1 := hR.c1
  rw [hhas] at hlk
  cases hq : hasT no S with
  | false =>
    rw [hq] at hlk
    generalize (getL no ms).getD (.int .i64 0) = v0 at hlk
    have hdr : dropT no S = S := by
      unfold dropT
      apply List.filter_eq_self.2
      intro a ha
      simp only [bne_iff_ne, ne_eq]
      intro he
      have := hasT_iff.2 ⟨a, ha, he⟩
      rw [hq] at this
      cases this
    rw [hdr]
    clear h hR hH hP hm hpos hum hui hhas hq hdr
    go_enter Try.func20, Try.ntmps20
    go_wp2_with fail
    go_ret
    exact ⟨rfl, Hh.out, Only.refl _ _⟩
  | true =>
    rw [hq] at hlk
    obtain ⟨a, haS, hno⟩ := hasT_iff.1 hq
    have haL : a ∈ L := hP.mem_iff.2 haS
    obtain ⟨i, hi, hia⟩ := List.getElem_of_mem haL
    have hget : L[i]? = some a := by rw [List.getElem?_eq_getElem hi, hia]
    have hv := hpos.there i a hget
    rw [hno] at hv
    rw [hv] at hlk
    simp only [Option.getD_some] at hlk
    have hLlen : L.length ≤ 10000 := by have := hP.length_eq; have := h.cap; have := h.top; omega
    have HcT := Lib.hid (heap_take hR hH hget hLlen i rfl)
    have HP := Lib.hid hP
    have Hno := Lib.hid hno
    clear h hR hH hP hm hpos hum hui hhas hq haS haL hget hia hv hno hLlen
    go_enter Try.func20, Try.ntmps20
    go_wp2_with fail
    refine HcT.out.mono ?_
    rintro e w1 ⟨rfl, sv1, L1, hR1, hH1, hP1, ho1, hb1⟩
    have Hb1 := Lib.hid hb1
    clear hb1
    go_wp2_with fail
    go_ret
    have hPd : L1.Perm (dropT no S) := by rw [← Hno.out]; exact perm_drop Hh.out.nos (hP1.trans HP.out)
    refine ⟨rfl, ⟨⟨bm, sv1, L1, hR1, hH1, hPd, by rw [Hb1.out]⟩, Hh.out.sorted.drop no, ?_, ?_, Hh.out.top⟩, ho1⟩
    · exact ((List.filter_sublist (l := S)).map (·.2)).nodup Hh.out.nos
    · have := Hh.out.cap
      have h2 : (dropT no S).length ≤ S.length := List.length_filter_le _ _
      omega

def isDue (now : Int) : List Tm → Bool
  | [] => false
  | t :: _ => decide (t.1 ≤ now)

set_option maxRecDepth 100000 in
set_option maxHeartbeats 1000000 in
theorem heap_due1 {w : World} {hp : Nat} {F : List Nat} {most : Int} {S : List Tm} (h : HeapObj w hp F most S) (B2 B3 : Nat) (now : Int) (h2 : w.cell? ⟨B2, 0, none⟩ = some (.pointer (some ⟨hp, 0, none⟩))) (h3 : w.cell? ⟨B3, 0, none⟩ = some (.int .i64 now)) :
    Calls Try.prog 46 #[.pointer (some ⟨B2, 0, none⟩), .pointer (some ⟨B3, 0, none⟩)] w fun e w' => e = .returned (.bool (isDue now S)) ∧ Only [] w w' := by
  have HcF := Lib.hid (heap_First h)
  clear h
  cases S with
  | nil =>
    go_enter Try.func46, Try.ntmps46
    go_wp2_with fail
    refine HcF.out.mono ?_
    rintro e w1 ⟨rfl, ho1⟩
    simp only [firstV]
    go_wp2_with fail
    go_ret
    exact ⟨rfl, ho1.alloc _⟩
  | cons t S =>
    go_enter Try.func46, Try.ntmps46
    go_wp2_with fail
    refine HcF.out.mono ?_
    rintro e w1 ⟨rfl, ho1⟩
    simp only [firstV]
    have k3 := ho1.cell h3 (by simp)
    have hb3 := lt_of_cell k3
    go_wp2_with fail
    go_ret
    exact ⟨rfl, ho1.alloc _⟩

end Go.Proofs.Ytcppnmogdmpdbaa
