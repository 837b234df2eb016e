/- HeapSorts: the law, walked. -/
import Derived.Test.YtcppnmogdmpdbaaIc
import Derived.Test.YtcppnmogdmpdbaaMb
import Derived.Deep.QuietTactic
import Derived.BigQuiet
import Derived.OpenShut
set_option linter.unusedVariables false
set_option linter.unusedSimpArgs false
namespace Go.Proofs.Ytcppnmogdmpdbaa
open Go.RowKit Go.Mk Go.Hp
attribute [-go_sem] Builtin.append_

/-- A slice of integers that came in, as the shells tell it. -/
def InRow (k : IntKind) (w : World) (a : Option Addr) (len cap : Nat) (zs : List Int) : Prop :=
  (a = none ∧ len = 0 ∧ cap = 0 ∧ zs = []) ∨
  ∃ x, a = some x ∧ len ≤ cap ∧ cap ≤ maxLen ∧ zs.length = cap ∧ (∀ i, i < zs.length → w.cell? (x.add i) = some (.int k (zs.getD i 0))) ∧ ∀ n ∈ zs, (Lit.int k n).wf = true

/-- The elements of such a slice, each in its cell. -/
theorem InRow.cells {k : IntKind} {w : World} {a : Option Addr} {len cap : Nat} {zs : List Int} (h : InRow k w a len cap zs) :
    len ≤ maxLen ∧ (0 < len → ∃ b off, a = some ⟨b, off, none⟩ ∧ b < w.heap.size ∧ ∀ i, i < len → w.cell? ⟨b, off + i, none⟩ = some (.int k (zs.getD i 0)) ∧ (Lit.int k (zs.getD i 0)).wf = true) := by
  rcases h with ⟨rfl, rfl, rfl, rfl⟩ | ⟨⟨b, off, spot⟩, rfl, hl, hm, hz, hcell, hwz⟩
  · exact ⟨by simp [maxLen], fun h => absurd h (by omega)⟩
  · refine ⟨by omega, fun h0 => ?_⟩
    have hc := hcell 0 (by omega)
    have hspot : spot = none := by simpa [Addr.add] using World.cell?_spot hc
    subst hspot
    have hadd : ∀ i, (⟨b, off, none⟩ : Addr).add i = ⟨b, off + i, none⟩ := fun i => by unfold Addr.add; split <;> simp_all
    refine ⟨b, off, rfl, World.block_lt_of_cell? w _ (by simpa [Addr.add] using hc), fun i hi => ⟨by rw [← hadd]; exact hcell i (by omega), ?_⟩⟩
    have hi' : i < zs.length := by omega
    rw [List.getD_eq_getElem?_getD, List.getElem?_eq_getElem hi']
    exact hwz _ (List.getElem_mem hi')

theorem info_int : ∃ i, Try.prog.info? 3 = some i ∧ i.zero = some (.int .i64 0) ∧ i.size = 1 ∧ i.bytes = 8 := by
  obtain ⟨i0, hi, hz0, hz1, hz2⟩ := info_parts (P := Try.prog) (e := 3) (z := .int .i64 0) (size := 1) (bytes := 8) (by kernel_rfl)
  exact ⟨i0, hi, hz0, hz1, hz2⟩

/-- The timer that is put in of place j. -/
def sortTm (zs : List Int) (s : Nat) (j : Nat) : Tm := (zs[j]?.getD 0 / 2 ^ s, (j : Int))

def lastT (D : List Tm) : Tm := D.getLastD (0, 0)
def seenB (D : List Tm) (j : Nat) : Int := if (j : Int) ∈ D.map (·.2) then 1 else 0
/-- What the row of those that were seen holds. -/
def seenL (len : Nat) (D : List Tm) : List (List Value) := (List.range len).map (fun j => [Value.int .i64 (seenB D j)])

theorem seenL_nil (len : Nat) : seenL len [] = List.replicate len [Value.int .i64 0] := by simp [seenL, seenB, List.map_const']
theorem seenL_get {len : Nat} (D : List Tm) {j : Nat} (h : j < len) : (seenL len D)[j]? = some [Value.int .i64 (seenB D j)] := by
  unfold seenL; rw [List.getElem?_map, List.getElem?_range h]; rfl
theorem seenL_set {len : Nat} (D : List Tm) (t : Tm) {j : Nat} (h : j < len) (ht : t.2 = (j : Int)) : (seenL len D).set j [Value.int .i64 1] = seenL len (D ++ [t]) := by
  apply List.ext_getElem?
  intro i
  by_cases hi : i < len
  · rw [seenL_get _ hi]
    by_cases hij : j = i
    · subst hij
      rw [List.getElem?_set_self (by simpa [seenL] using h)]
      have : seenB (D ++ [t]) j = 1 := by unfold seenB; rw [if_pos (by simp [ht])]
      rw [this]
    · rw [List.getElem?_set_ne hij, seenL_get _ hi]
      have : seenB (D ++ [t]) i = seenB D i := by
        unfold seenB
        have hne : ¬ (i : Int) = t.2 := by rw [ht]; omega
        simp only [List.map_append, List.map_cons, List.map_nil, List.mem_append, List.mem_singleton, hne, or_false]
      rw [this]
  · rw [List.getElem?_eq_none (by simp [seenL]; omega), List.getElem?_eq_none (by simp [seenL]; omega)]

theorem sort_next {zs : List Int} {s len : Nat} {D S'' : List Tm} {t : Tm} (hs : SortedT (D ++ t :: S'')) (hn : ((D ++ t :: S'').map (·.2)).Nodup) (hp : (D ++ t :: S'').Perm ((List.range len).map (sortTm zs s))) :
    ∃ j, j < len ∧ t = sortTm zs s j ∧ seenB D j = 0 ∧ (D ≠ [] → ltT (lastT D) t = true) := by
  have ht : t ∈ D ++ t :: S'' := by simp
  obtain ⟨j, hj, hjt⟩ := List.mem_map.1 (hp.mem_iff.1 ht)
  refine ⟨j, by simpa using hj, hjt.symm, ?_, fun hD => ?_⟩
  · unfold seenB
    rw [if_neg]
    intro hm
    rw [List.map_append, List.nodup_append] at hn
    exact hn.2.2 _ hm t.2 (by simp) (by rw [← hjt]; rfl)
  · have hl : lastT D ∈ D := by
      unfold lastT
      rw [List.getLastD_eq_getLast?, List.getLast?_eq_some_getLast hD]
      exact List.getLast_mem hD
    have h2 := (List.pairwise_append.1 hs).2.2 _ hl t (by simp)
    exact h2

theorem sort_fin {w w4 : World} {hp : Nat} {F : List Nat} {S'' D : List Tm} {i j sg lb : Nat} {tv c0 c1 : Int} (hobj : HeapObj w4 hp F 200 S'') (hrow : RowMem w4 3 1 (seenL i D) sg 0 i) (hlast : w4.heap[lb]? = some (.cells #[.int .i64 c0, .int .i64 c1] 30))
    (ho : Only [] w w4) (hj : j < i) (h1 : sg ∉ F) (h2 : lb ∉ F) (h3 : sg ≠ lb) (h4 : w.heap.size ≤ sg) (h5 : w.heap.size ≤ lb) (nq : Nat) (B : Obj) :
    HeapObj (((((w4.alloc B).drewN nq).setCell ⟨sg, j, none⟩ (.int .i64 1)).setCell ⟨lb, 0, none⟩ (.int .i64 tv)).setCell ⟨lb, 1, none⟩ (.int .i64 j)) hp F 200 S'' ∧
    RowMem (((((w4.alloc B).drewN nq).setCell ⟨sg, j, none⟩ (.int .i64 1)).setCell ⟨lb, 0, none⟩ (.int .i64 tv)).setCell ⟨lb, 1, none⟩ (.int .i64 j)) 3 1 (seenL i (D ++ [(tv, (j : Int))])) sg 0 i ∧
    (((((w4.alloc B).drewN nq).setCell ⟨sg, j, none⟩ (.int .i64 1)).setCell ⟨lb, 0, none⟩ (.int .i64 tv)).setCell ⟨lb, 1, none⟩ (.int .i64 j)).heap[lb]? = some (.cells #[.int .i64 tv, .int .i64 j] 30) ∧
    Only [] w (((((w4.alloc B).drewN nq).setCell ⟨sg, j, none⟩ (.int .i64 1)).setCell ⟨lb, 0, none⟩ (.int .i64 tv)).setCell ⟨lb, 1, none⟩ (.int .i64 j)) := by
  have o0 : Only [] w4 ((w4.alloc B).drewN nq) := ((Only.refl _ _).alloc _).drewN nq
  have hrow0 := hrow.only o0 (by simp)
  have hlast0 := o0.blk hlast (by simp)
  have hobj0 := hobj.only o0 (by simp)
  have ho0 := ho.trans o0
  generalize (w4.alloc B).drewN nq = w5 at *
  have o1 : Only [sg] w5 (w5.setCell ⟨sg, j, none⟩ (.int .i64 1)) := (Only.refl _ _).setCell (.inl (by simp)) _
  have o2 : Only [lb] (w5.setCell ⟨sg, j, none⟩ (.int .i64 1)) (((w5.setCell ⟨sg, j, none⟩ (.int .i64 1)).setCell ⟨lb, 0, none⟩ (.int .i64 tv)).setCell ⟨lb, 1, none⟩ (.int .i64 j)) := ((Only.refl _ _).setCell (.inl (by simp)) _).setCell (.inl (by simp)) _
  have hr1 := hrow0.setCell (i := j) (f := 0) (seenL_get D hj) (by omega) (.int .i64 1)
  simp only [Nat.zero_add, Nat.mul_one, Nat.add_zero, List.set_cons_zero] at hr1
  rw [seenL_set D (tv, (j : Int)) hj rfl] at hr1
  refine ⟨(hobj0.only o1 (by intro b hb; simp only [List.mem_singleton]; rintro rfl; exact h1 hb)).only o2 (by intro b hb; simp only [List.mem_singleton]; rintro rfl; exact h2 hb), hr1.only o2 (by simpa using h3), ?_, (ho0.trans' o1 (by intro x hx hlt; simp only [List.mem_singleton] at hx; omega)).trans' o2 (by intro x hx hlt; simp only [List.mem_singleton] at hx; omega)⟩
  have hb1 := o1.blk hlast0 (by simpa using Ne.symm h3)
  have hb2 := setCell_blk (i := 0) (v := .int .i64 tv) hb1
  have hb3 := setCell_blk (i := 1) (v := .int .i64 (j : Int)) hb2
  exact hb3

set_option maxRecDepth 100000 in
set_option maxHeartbeats 4000000 in
theorem sorts_walk (a : Option Addr) (len cap : Nat) (zs : List Int) (k : Int) (w : World) (h : InRow .i64 w a len cap zs) (hk : (Lit.int .u8 k).wf = true) :
    Calls Try.prog 3 #[.slice a len cap, .int .u8 k] w fun e w' => e = .returned (.bool true) ∧ Only [] w w' := by
  obtain ⟨hl, hc⟩ := h.cells
  have hkb : 0 ≤ k ∧ k ≤ 255 := bounds_u8 hk
  by_cases hbig : 200 < len
  · have hb' : (200 : Int) < len := by omega
    clear hc h
    go_enter Try.func3, Try.ntmps3
    go_wp2_with fail
    refine (known10 _).mono ?_
    rintro e w1 ⟨rfl, o1⟩
    go_wp2_with fail
    go_ret
    exact ⟨rfl, o1⟩
  · have hb' : (len : Int) ≤ 200 := by omega
    have HC := Lib.hid hc
    obtain ⟨hk0, hk1⟩ := hkb
    clear hc h hl
    go_enter Try.func3, Try.ntmps3
    go_wp2_with fail
    refine (known10 _).mono ?_
    rintro e w1 ⟨rfl, o1⟩
    go_wp2_with fail
    refine (heap_new 200 (by omega) (by omega)).mono ?_
    rintro e w2 ⟨hp, F, rfl, h2, hF, o2⟩
    have O2 := Lib.hid (o1.trans o2)
    have HF2 : Hid (∀ b ∈ F, w.heap.size ≤ b) := fun b hb => Nat.le_trans o1.size (hF b hb)
    have H2 := Lib.hid h2
    clear h2 hF o1 o2
    go_wp2_with fail
    have hkb2 : (0 : Int) ≤ k % 64 := by omega
    go_loopw [6] (fun iv wr => ∃ (i : Nat) (F : List Nat) (S : List Tm), iv = .int .i64 i ∧ i ≤ len ∧ HeapObj wr hp F 200 S ∧ S.Perm ((List.range i).map (sortTm zs (k % 64).toNat)) ∧ Only [] w wr ∧ (∀ b ∈ F, w.heap.size ≤ b)) (fun iv _ => len - (intOf iv).toNat)
    case atStart => exact ⟨0, F, [], rfl, by omega, H2.out, List.Perm.refl _, O2.out, HF2.out⟩
    case round =>
      obtain ⟨i, F, S, rfl, hi, hobj, hS, ho, hF⟩ := hrel
      by_cases hlt : i < len
      · obtain ⟨b, off, rfl, hb, hcell⟩ := HC.out (by omega)
        have hci := ho.cell (hcell i hlt).1 (by simp)
        have hpt : pushTold (zs[i]?.getD 0 / 2 ^ (k % 64).toNat, (i : Int)) S 200 = 0 := by
          have hno : hasT (i : Int) S = false := by
            cases hq : hasT (i : Int) S with
            | false => rfl
            | true =>
              obtain ⟨x, hx, hxi⟩ := hasT_iff.1 hq
              obtain ⟨j, hj, rfl⟩ := List.mem_map.1 (hS.mem_iff.1 hx)
              simp only [List.mem_range] at hj
              simp only [sortTm, Int.natCast_inj] at hxi
              omega
          have hl := hS.length_eq
          rw [List.length_map, List.length_range] at hl
          unfold pushTold
          rw [hno, hl, if_neg (by simp), if_neg (by omega)]
        have Hobj := Lib.hid hobj
        have HS := Lib.hid hS
        have Hpt := Lib.hid hpt
        clear hcell hobj hS hpt
        go_wp2_with fail
        refine (heap_Push Hobj.out (zs[i]?.getD 0 / 2 ^ (k % 64).toNat, (i : Int)) Hpt.out).mono ?_
        rintro e w3 ⟨rfl, F3, h3, o3, hF3⟩
        have H3 := Lib.hid h3
        have HF3 := Lib.hid hF3
        clear h3 hF3
        go_wp2_with fail
        go_roundw
        case rel =>
          refine ⟨i + 1, F3, _, by go_num, by omega, H3.out, ?_, ho.trans' o3 (fun x hx hlt => absurd (hF x hx) (by omega)), ?_⟩
          · rw [List.range_succ, List.map_append]
            exact ((insT_perm _ S).trans (HS.out.cons _)).trans (List.perm_append_comm (l₁ := [_]))
          · intro x hx
            rcases HF3.out x hx with h1 | h1
            · exact hF x h1
            · exact Nat.le_trans ho.size h1
        case measure => simp [intOf]; omega
      · have hil : i = len := by omega
        have HIL := Lib.hid hil
        subst hil
        obtain ⟨i0, hi0, hz0, hz1, hz2⟩ := info_int
        obtain ⟨o, hmk, hrow⟩ := run_make_is (P := Try.prog) (w := wr) Try.underlying22 hi0 hz0 hz1 hz2 rfl i (by omega) (by omega)
        have oa : Only [] wr (wr.alloc o) := (Only.refl _ _).alloc _
        have hobj2 := hobj.only oa (by simp)
        have Hobj := Lib.hid hobj2
        have HS := Lib.hid hS
        have HF := Lib.hid hF
        have HFl := Lib.hid hobj.lts
        have Hrow := Lib.hid hrow
        have Ho := Lib.hid (ho.trans oa)
        have hwl : wr.heap.size < (wr.alloc o).heap.size := by simp
        clear hobj hobj2 hS hF hrow oa hi0 hz0 hz1 hz2
        generalize hw2 : wr.alloc o = w2 at *
        clear hw2
        have Hs0 : Hid (RowMem w2 3 1 (seenL i []) wr.heap.size 0 i) := by rw [seenL_nil]; exact Hrow.out
        clear Hrow
        have Hsn := Lib.hid (⟨Hobj.out.sorted, Hobj.out.nos, HS.out⟩ : SortedT S ∧ (S.map (·.2)).Nodup ∧ _)
        have Hwb : Hid (w.heap.size ≤ wr.heap.size) := ho.size
        have HFw : Hid (∀ b ∈ F, b < w2.heap.size) := Hobj.out.lts
        generalize hsg : wr.heap.size = sg at *
        clear hsg ho
        go_wp2_with fail
        have hlbsg : Hid (sg < w2.heap.size) := hwl
        generalize hlb : w2.heap.size = lb at *
        have Ho2 : Hid (Only [] w (w2.alloc (.cells #[.int .i64 0, .int .i64 0] 30))) := Ho.out.alloc _
        have Hlast : Hid (∃ B, (w2.alloc (.cells #[.int .i64 0, .int .i64 0] 30)).heap[lb]? = some B ∧ B = .cells #[.int .i64 0, .int .i64 0] 30) := by
          rw [← hlb]; exact ⟨_, heap_alloc_new _ _, rfl⟩
        have oa : Only [] w2 (w2.alloc (.cells #[.int .i64 0, .int .i64 0] 30)) := (Only.refl _ _).alloc _
        have Hobj2 := Lib.hid (Hobj.out.only oa (by simp))
        have Hs1 := Lib.hid (Hs0.out.only oa (by simp))
        have hwl2 : Hid (lb < (w2.alloc (.cells #[.int .i64 0, .int .i64 0] 30)).heap.size) := by rw [← hlb]; show _ < _; simp
        clear oa hlb hmk Hobj Hs0 Ho
        generalize hw3 : w2.alloc (.cells #[.int .i64 0, .int .i64 0] 30) = w3 at *
        clear hw3
        go_loopw [9, 10, 11] (fun iv _ _ wr => ∃ (n : Nat) (D S' : List Tm), iv = .int .i64 n ∧ D.length = n ∧ D ++ S' = S ∧ HeapObj wr hp F 200 S' ∧ RowMem wr 3 1 (seenL i D) sg 0 i ∧
          wr.heap[lb]? = some (.cells #[.int .i64 (lastT D).1, .int .i64 (lastT D).2] 30) ∧ Only [] w wr) (fun iv _ _ _ => i - (intOf iv).toNat)
        case atStart => exact ⟨0, [], S, rfl, rfl, rfl, Hobj2.out, Hs1.out, (by obtain ⟨B, hB, rfl⟩ := Hlast.out; exact hB), Ho2.out⟩
        case round =>
          obtain ⟨n, D, S', rfl, hD, hDS, hobj, hrow, hlast, ho⟩ := hrel
          have hSl : S.length = i := by have := Hsn.out.2.2.length_eq; simpa using this
          have hlen2 : n + S'.length = i := by rw [← hSl, ← hDS, List.length_append, hD]
          by_cases hlt : n < i
          · cases S' with
            | nil => simp at hlen2; omega
            | cons t S'' =>
              have hsn := Hsn.out
              rw [← hDS] at hsn
              obtain ⟨j, hj, htj, hsj, hord⟩ := sort_next hsn.1 hsn.2.1 hsn.2.2
              obtain ⟨b, off, rfl, hb, hcell⟩ := HC.out (by omega)
              have hFw := HFw.out
              have hFl := HFl.out
              have hFs := HF.out
              have hwb := Hwb.out
              have hlb1 := hwl2.out
              have hsgF : sg ∉ F := fun hm => by have := hFl sg hm; omega
              have hlbF : lb ∉ F := fun hm => by have := hFw lb hm; omega
              have hbF : b ∉ F := fun hm => by have := hFs b hm; omega
              have hlw := lt_of_blk hlast
              have Hc1 := Lib.hid (ho.cell (hcell j hj).1 (by simp))
              have Hpop := Lib.hid (heap_Pop hobj)
              have A : Aside (_ ∧ _ ∧ _ ∧ _ ∧ _ ∧ _ ∧ _) := ⟨hD, hDS, hrow, hlast, ho, hsn, hord⟩
              clear hD hDS hrow hlast ho hsn hord hobj hcell hSl
              have hjlt : (j : Int) < i := by omega
              have hj0 : (0 : Int) ≤ j := by omega
              obtain ⟨xj, hxj⟩ : ∃ x, zs[j]?.getD 0 = x := ⟨_, rfl⟩
              obtain ⟨tv, htv⟩ : ∃ tv, xj / 2 ^ (k % 64).toNat = tv := ⟨_, rfl⟩
              have htt : t = (tv, (j : Int)) := by rw [htj, sortTm, hxj, htv]
              have Htt := Lib.hid htt
              have Hc2 := Hc1.out
              rw [List.getD_eq_getElem?_getD, hxj] at Hc2
              have Hc1 := Lib.hid Hc2
              clear htt htj hxj Hc2
              have htm : k.tmod 64 = k % 64 := Int.tmod_eq_emod_of_nonneg hk0
              go_wp2_with fail
              refine Hpop.out.mono ?_
              rintro e w4 ⟨rfl, hobj4, ho4⟩
              simp only [firstV, Htt.out]
              obtain ⟨hD, hDS, hrow, hlast, ho, hsn, hord⟩ := A.out
              have hrow4 := hrow.only ho4 hsgF
              have hlast4 := ho4.blk hlast hlbF
              have hlbw : lb < w4.heap.size := ho4.lt hlw
              have k1 := ho4.cell Hc1.out hbF
              have ks := hrow4.cell (f := 0) (seenL_get D hj) rfl
              rw [hsj] at ks
              simp only [Nat.zero_add, Nat.mul_one, Nat.add_zero] at ks
              have l0 : w4.cell? ⟨lb, 0, none⟩ = some (.int .i64 (lastT D).1) := by rw [cell_of_blk hlast4]; rfl
              have l1 : w4.cell? ⟨lb, 1, none⟩ = some (.int .i64 (lastT D).2) := by rw [cell_of_blk hlast4]; rfl
              have f0 : ∀ q, w4.frozen? ⟨lb, q, none⟩ = false := fun q => frozen_of_blk hlast4
              have f1 : ∀ q, w4.frozen? ⟨sg, q, none⟩ = false := fun q => hrow4.frozen q
              have hsgw := hrow4.lt
              have hbw := lt_of_cell k1
              have hsl : sg ≠ lb := by
                intro he
                have := hlbsg.out
                omega
              have hj3 : decide ((j : Int) < 0) = false := by simp
              have hj4 : decide (i ≤ j) = false := by simp; omega
              have A2 : Aside (_ ∧ _ ∧ _) := ⟨hD, hDS, hord⟩
              have Hfin := fun nq => Lib.hid (sort_fin (tv := tv) hobj4 hrow4 hlast4 (ho.trans' ho4 (fun x hx hlt => absurd (hFs x hx) (by omega))) hj hsgF hlbF hsl (by omega) (by have := hlbsg.out; omega) nq (.cells #[.int .i64 tv, .int .i64 j] 30))
              clear hD hDS hrow hlast ho hsn hrow4 hlast4 ho4 hobj4 A Hpop hord
              have close : ∀ nq : Nat, ∃ (m : Nat) (D' S' : List Tm), Value.int .i64 ((n : Int) + 1) = .int .i64 m ∧ D'.length = m ∧ D' ++ S' = S ∧
                  HeapObj (((((w4.alloc (.cells #[.int .i64 tv, .int .i64 j] 30)).drewN nq).setCell ⟨sg, j, none⟩ (.int .i64 1)).setCell ⟨lb, 0, none⟩ (.int .i64 tv)).setCell ⟨lb, 1, none⟩ (.int .i64 j)) hp F 200 S' ∧
                  RowMem (((((w4.alloc (.cells #[.int .i64 tv, .int .i64 j] 30)).drewN nq).setCell ⟨sg, j, none⟩ (.int .i64 1)).setCell ⟨lb, 0, none⟩ (.int .i64 tv)).setCell ⟨lb, 1, none⟩ (.int .i64 j)) 3 1 (seenL i D') sg 0 i ∧
                  (((((w4.alloc (.cells #[.int .i64 tv, .int .i64 j] 30)).drewN nq).setCell ⟨sg, j, none⟩ (.int .i64 1)).setCell ⟨lb, 0, none⟩ (.int .i64 tv)).setCell ⟨lb, 1, none⟩ (.int .i64 j)).heap[lb]? = some (.cells #[.int .i64 (lastT D').1, .int .i64 (lastT D').2] 30) ∧
                  Only [] w (((((w4.alloc (.cells #[.int .i64 tv, .int .i64 j] 30)).drewN nq).setCell ⟨sg, j, none⟩ (.int .i64 1)).setCell ⟨lb, 0, none⟩ (.int .i64 tv)).setCell ⟨lb, 1, none⟩ (.int .i64 j)) := by
                intro nq
                obtain ⟨g1, g2, g3, g4⟩ := (Hfin nq).out
                obtain ⟨hD, hDS, hord⟩ := A2.out
                refine ⟨n + 1, D ++ [t], S'', by go_num, by simp [hD], by rw [← hDS]; simp, g1, by rw [Htt.out]; exact g2, ?_, g4⟩
                rw [g3]
                simp [lastT, Htt.out]
              have Hclose := Lib.hid close
              clear close Hfin
              by_cases hn0 : n = 0
              · have hn1 : decide (0 < n) = false := by simp; omega
                clear hn0
                go_wp2_with fail
                go_quiet (fail)
                go_wp2_with fail
                exact ⟨Hclose.out nq, by simp [intOf]; omega⟩
              · have hn1 : decide (0 < n) = true := by simp; omega
                have hord := A2.out.2.2 (by rintro rfl; have := A2.out.1; simp at this; omega)
                rw [Htt.out] at hord
                have hlt2 : (lastT D).1 < tv ∨ (lastT D).1 = tv ∧ (lastT D).2 < j := by
                  unfold ltT at hord
                  exact of_decide_eq_true hord
                clear hord hn0
                generalize (lastT D).1 = la at *
                generalize (lastT D).2 = ln at *
                rcases hlt2 with hA | ⟨hA, hB⟩
                · have hx1 : decide (tv < la) = false := by simp; omega
                  have hx2 : (tv == la) = false := by rw [beq_eq_false_iff_ne]; omega
                  go_wp2_with fail
                  go_quiet (fail)
                  go_wp2_with fail
                  exact ⟨Hclose.out nq, by simp [intOf]; omega⟩
                · subst hA
                  have hx1 : decide ((j : Int) < ln) = false := by simp; omega
                  have hx2 : decide (la < la) = false := by simp
                  have hx3 : (la == la) = true := by simp
                  go_wp2_with fail
                  go_quiet (fail)
                  go_wp2_with fail
                  exact ⟨Hclose.out nq, by simp [intOf]; omega⟩
          · have hni : n = i := by omega
            have hS0 : S' = [] := List.eq_nil_of_length_eq_zero (by omega)
            subst hS0
            have Hpop := Lib.hid (heap_Pop hobj)
            have Hoo := Lib.hid ho
            have HFl2 := Lib.hid HF.out
            clear hobj hrow hlast ho hDS hD hSl hlen2
            subst hni
            have hlt' : ¬ (n : Int) < n := by omega
            go_wp2_with fail
            refine Hpop.out.mono ?_
            rintro e w4 ⟨rfl, hobj4, ho4⟩
            simp only [firstV]
            have oa : Only [] w4 (w4.alloc (.cells #[.int .i64 0, .int .i64 0] 30)) := (Only.refl _ _).alloc _
            have Hl := Lib.hid (heap_len (hobj4.only oa (by simp)))
            have Hfo : Hid (Only [] w (w4.alloc (.cells #[.int .i64 0, .int .i64 0] 30))) := (Hoo.out.trans' ho4 (fun x hx hlt => absurd (HFl2.out x hx) (by omega))).trans oa
            clear hobj4 ho4 oa
            go_wp2_with fail
            refine Hl.out.mono ?_
            rintro e w5 ⟨rfl, hw⟩
            subst hw
            go_wp2_with fail
            go_ret
            exact ⟨rfl, Hfo.out⟩

end Go.Proofs.Ytcppnmogdmpdbaa
