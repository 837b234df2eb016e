/- HeapDrop: the law, walked. -/
import Derived.Test.YtcppnmogdmpdbaaId
import Derived.Deep.RegionWith
namespace Go.Proofs.Ytcppnmogdmpdbaa
open Go.RowKit Go.Mk Go.Hp
attribute [-go_sem] Builtin.append_

def thereB (S : List Tm) (j : Nat) : Int := if hasT (j : Int) S then 1 else 0
/-- What the row of those that are there holds. -/
def thereL (len : Nat) (S : List Tm) : List (List Value) := (List.range len).map (fun j => [Value.int .i64 (thereB S j)])
theorem thereL_nil (len : Nat) : thereL len [] = List.replicate len [Value.int .i64 0] := by simp [thereL, thereB, hasT, List.map_const']
theorem thereL_get {len : Nat} (S : List Tm) {j : Nat} (h : j < len) : (thereL len S)[j]? = some [Value.int .i64 (thereB S j)] := by
  unfold thereL; rw [List.getElem?_map, List.getElem?_range h]; rfl
theorem thereL_len (len : Nat) (S : List Tm) : (thereL len S).length = len := by simp [thereL]
theorem thereL_set {len : Nat} (S S' : List Tm) {j : Nat} (v : Int) (h : j < len) (hv : thereB S' j = v) (ho : ∀ i, i < len → i ≠ j → thereB S' i = thereB S i) : (thereL len S).set j [Value.int .i64 v] = thereL len S' := by
  apply List.ext_getElem?
  intro i
  by_cases hi : i < len
  · rw [thereL_get _ hi]
    by_cases hij : j = i
    · subst hij
      rw [List.getElem?_set_self (by simpa [thereL] using h), hv]
    · rw [List.getElem?_set_ne hij, thereL_get _ hi, ho i hi (fun he => hij he.symm)]
  · rw [List.getElem?_eq_none (by simp [thereL]; omega), List.getElem?_eq_none (by simp [thereL]; omega)]
theorem hasT_ins (t : Tm) (S : List Tm) (no : Int) : hasT no (insT t S) = (t.2 == no || hasT no S) := by
  rw [Bool.eq_iff_iff, hasT_iff, Bool.or_eq_true, hasT_iff, beq_iff_eq]
  constructor
  · rintro ⟨a, ha, hn⟩
    rcases List.mem_cons.1 ((insT_perm t S).mem_iff.1 ha) with rfl | ha
    · exact .inl hn
    · exact .inr ⟨a, ha, hn⟩
  · rintro (h | ⟨a, ha, hn⟩)
    · exact ⟨t, (insT_perm t S).mem_iff.2 (by simp), h⟩
    · exact ⟨a, (insT_perm t S).mem_iff.2 (by simp [ha]), hn⟩
theorem hasT_drop (k : Int) (S : List Tm) (no : Int) : hasT no (dropT k S) = (no != k && hasT no S) := by
  rw [Bool.eq_iff_iff, hasT_iff, Bool.and_eq_true, hasT_iff, bne_iff_ne]
  constructor
  · rintro ⟨a, ha, hn⟩
    have h2 := List.mem_filter.1 ha
    exact ⟨by have := h2.2; simp only [bne_iff_ne] at this; rw [← hn]; exact this, a, h2.1, hn⟩
  · rintro ⟨h, a, ha, hn⟩
    exact ⟨a, List.mem_filter.2 ⟨ha, by simp only [bne_iff_ne]; rw [hn]; exact h⟩, hn⟩
theorem thereL_ins {len : Nat} (S : List Tm) (t : Tm) {j : Nat} (h : j < len) (ht : t.2 = (j : Int)) : (thereL len S).set j [Value.int .i64 1] = thereL len (insT t S) := by
  refine thereL_set S _ 1 h ?_ fun i hi hij => ?_
  · unfold thereB; rw [hasT_ins, ht]; simp
  · unfold thereB; rw [hasT_ins, ht]
    have : ((j : Int) == (i : Int)) = false := by rw [beq_eq_false_iff_ne]; omega
    rw [this]; simp
theorem thereL_drop {len : Nat} (S : List Tm) {j : Nat} (h : j < len) : (thereL len S).set j [Value.int .i64 0] = thereL len (dropT (j : Int) S) := by
  refine thereL_set S _ 0 h ?_ fun i hi hij => ?_
  · unfold thereB; rw [hasT_drop]; simp
  · unfold thereB; rw [hasT_drop]
    have : ((i : Int) != (j : Int)) = true := by rw [bne_iff_ne]; omega
    rw [this]; simp

/-- A row of there's, one of its cells turned. -/
theorem there_cell {w : World} {len sg : Nat} {S S' : List Tm} (h : RowMem w 3 1 (thereL len S) sg 0 len) {j : Nat} (hj : j < len) (v : Int) (hs : (thereL len S).set j [Value.int .i64 v] = thereL len S') :
    RowMem (w.setCell ⟨sg, j, none⟩ (.int .i64 v)) 3 1 (thereL len S') sg 0 len := by
  have h1 := h.setCell (i := j) (f := 0) (thereL_get S hj) (by omega) (.int .i64 v)
  simp only [Nat.zero_add, Nat.mul_one, Nat.add_zero, List.set_cons_zero] at h1
  rwa [hs] at h1
theorem there_get {w : World} {len sg : Nat} {S : List Tm} (h : RowMem w 3 1 (thereL len S) sg 0 len) {j : Nat} (hj : j < len) : w.cell? ⟨sg, j, none⟩ = some (.int .i64 (thereB S j)) := by
  have h1 := h.cell (f := 0) (thereL_get S hj) rfl
  simpa only [Nat.zero_add, Nat.mul_one, Nat.add_zero] using h1

set_option maxRecDepth 100000 in
set_option maxHeartbeats 4000000 in
theorem drop_walk (a : Option Addr) (len cap : Nat) (zs : List Int) (a' : Option Addr) (len' cap' : Nat) (zs' : List Int) (w : World) (h : InRow .u8 w a len cap zs) (h' : InRow .u8 w a' len' cap' zs') :
    Calls Try.prog 4 #[.slice a len cap, .slice a' len' cap'] w fun e w' => e = .returned (.bool true) ∧ Only [] w w' := by
  obtain ⟨hl, hc⟩ := h.cells
  obtain ⟨hl', hc'⟩ := h'.cells
  have HC := Lib.hid hc
  have HC' := Lib.hid hc'
  clear hc hc' h h'
  by_cases hbig : 100 < len ∨ 100 < len'
  · have hg : (decide ((100 : Int) < len) = true) ∨ (decide ((100 : Int) < len) = false ∧ decide ((100 : Int) < len') = true) := by
      rcases hbig with h | h
      · exact .inl (by simp; omega)
      · by_cases h1 : 100 < len
        · exact .inl (by simp; omega)
        · exact .inr ⟨by simp; omega, by simp; omega⟩
    clear hbig hl hl' HC HC'
    rcases hg with g1 | ⟨g1, g2⟩
    all_goals
      go_enter Try.func4, Try.ntmps4
      go_wp2_with fail
      refine (heap_new 200 (by omega) (by omega)).mono ?_
      rintro e w2 ⟨hp, F, rfl, h2, hF, o2⟩
      clear h2 hF
      go_wp2_with fail
      refine (known10 _).mono ?_
      rintro e w1 ⟨rfl, o1⟩
      go_wp2_with fail
      go_ret
      exact ⟨rfl, o2.trans o1⟩
  · have g1 : decide ((100 : Int) < len) = false := by simp; omega
    have g2 : decide ((100 : Int) < len') = false := by simp; omega
    have hb : (len : Int) ≤ 100 := by omega
    have hb' : (len' : Int) ≤ 100 := by omega
    clear hbig hl hl'
    go_enter Try.func4, Try.ntmps4
    go_wp2_with fail
    refine (heap_new 200 (by omega) (by omega)).mono ?_
    rintro e w2 ⟨hp, F, rfl, h2, hF, o2⟩
    have H2 := Lib.hid h2
    have HF := Lib.hid hF
    clear h2 hF
    go_wp2_with fail
    refine (known10 _).mono ?_
    rintro e w1 ⟨rfl, o1⟩
    obtain ⟨i0, hi0, hz0, hz1, hz2⟩ := info_int
    obtain ⟨o, hmk, hrow⟩ := run_make_is (P := Try.prog) (w := w1) Try.underlying22 hi0 hz0 hz1 hz2 rfl len (by omega) (by omega)
    have oa : Only [] w1 (w1.alloc o) := (Only.refl _ _).alloc _
    have Hobj := Lib.hid ((H2.out.only o1 (by simp)).only oa (by simp))
    have Ho := Lib.hid ((o2.trans o1).trans oa)
    have Hrow : Hid (RowMem (w1.alloc o) 3 1 (thereL len []) w1.heap.size 0 len) := by rw [thereL_nil]; exact hrow
    have hsgF : Hid (w1.heap.size ∉ F) := fun hm => by have := (H2.out.only o1 (by simp)).lts _ hm; omega
    have hsgw : Hid (w.heap.size ≤ w1.heap.size) := (o2.trans o1).size
    have HFw : Hid (∀ b ∈ F, w.heap.size ≤ b) := HF.out
    clear hi0 hz0 hz1 hz2 hrow oa o1 o2 H2 HF
    generalize hw3 : w1.alloc o = w3 at *
    have hlt3 : Hid (w1.heap.size < w3.heap.size) := by rw [← hw3]; show _ < _; simp
    generalize w1.heap.size = sg at *
    clear hw3
    go_wp2_with fail
    clear hmk
    go_loopw [7] (fun iv wr => ∃ (i : Nat) (F : List Nat) (S : List Tm), iv = .int .i64 i ∧ i ≤ len ∧ HeapObj wr hp F 200 S ∧ S.length = i ∧ (∀ t ∈ S, 0 ≤ t.1 ∧ ∃ j : Nat, j < i ∧ t.2 = j) ∧
      RowMem wr 3 1 (thereL len S) sg 0 len ∧ Only [] w wr ∧ (∀ b ∈ F, w.heap.size ≤ b) ∧ sg ∉ F) (fun iv _ => len - (intOf iv).toNat)
    case atStart => exact ⟨0, F, [], rfl, by omega, Hobj.out, rfl, by simp, Hrow.out, Ho.out, HFw.out, hsgF.out⟩
    case round =>
      obtain ⟨i, F, S, rfl, hi, hobj, hS, hno, hrow, ho, hF, hsF⟩ := hrel
      by_cases hlt : i < len
      · obtain ⟨b, off, rfl, hbw, hcell⟩ := HC.out (by omega)
        obtain ⟨x, hx⟩ : ∃ x, zs[i]?.getD 0 = x := ⟨_, rfl⟩
        have hci := ho.cell (hcell i hlt).1 (by simp)
        have hwf := (hcell i hlt).2
        rw [List.getD_eq_getElem?_getD, hx] at hci hwf
        obtain ⟨hx0, hx1⟩ := bounds_u8 hwf
        have hpt : pushTold (x % 16, (i : Int)) S 200 = 0 := by
          have hn : hasT (i : Int) S = false := by
            cases hq : hasT (i : Int) S with
            | false => rfl
            | true =>
              obtain ⟨t, ht, hti⟩ := hasT_iff.1 hq
              obtain ⟨_, j, hj, hj2⟩ := hno t ht
              omega
          unfold pushTold
          rw [hn, hS, if_neg (by simp), if_neg (by omega)]
        have A : Aside (_ ∧ _ ∧ _ ∧ _ ∧ _ ∧ _ ∧ _ ∧ _) := ⟨hobj, hS, hno, hrow, ho, hF, hsF, hpt⟩
        have htm : x.tmod 16 = x % 16 := Int.tmod_eq_emod_of_nonneg hx0
        clear hcell hobj hS hno hrow ho hF hsF hpt hwf hx
        go_wp2_with fail
        obtain ⟨hobj, hS, hno, hrow, ho, hF, hsF, hpt⟩ := A.out
        have cP := heap_Push hobj (x % 16, (i : Int)) hpt
        clear hobj hS hno hrow ho hF hsF hpt
        refine cP.mono ?_
        rintro e w4 ⟨rfl, F4, h4, o4, hF4⟩
        obtain ⟨hobj, hS, hno, hrow, ho, hF, hsF, hpt⟩ := A.out
        have hrow4 := hrow.only o4 hsF
        have k1 := there_get hrow4 hlt
        have f1 : ∀ q, w4.frozen? ⟨sg, q, none⟩ = false := fun q => hrow4.frozen q
        have hsF4 : sg ∉ F4 := fun hm => by
          rcases hF4 _ hm with h1 | h1
          · exact hsF h1
          · have := hrow.lt; omega
        have os : Only [sg] w4 (w4.setCell ⟨sg, i, none⟩ (.int .i64 1)) := (Only.refl _ _).setCell (.inl (by simp)) _
        have fin : ∃ (m : Nat) (F : List Nat) (S : List Tm), Value.int .i64 ((i : Int) + 1) = .int .i64 m ∧ m ≤ len ∧ HeapObj (w4.setCell ⟨sg, i, none⟩ (.int .i64 1)) hp F 200 S ∧ S.length = m ∧ (∀ t ∈ S, 0 ≤ t.1 ∧ ∃ j : Nat, j < m ∧ t.2 = j) ∧
            RowMem (w4.setCell ⟨sg, i, none⟩ (.int .i64 1)) 3 1 (thereL len S) sg 0 len ∧ Only [] w (w4.setCell ⟨sg, i, none⟩ (.int .i64 1)) ∧ (∀ b ∈ F, w.heap.size ≤ b) ∧ sg ∉ F := by
          refine ⟨i + 1, F4, _, by go_num, by omega, h4.only os (by intro b hb; simp only [List.mem_singleton]; rintro rfl; exact hsF4 hb), by rw [insT_length, hS], ?_, there_cell hrow4 hlt 1 (thereL_ins S (x % 16, (i : Int)) hlt rfl), ?_, ?_, hsF4⟩
          · intro t ht
            rcases List.mem_cons.1 ((insT_perm _ S).mem_iff.1 ht) with rfl | ht
            · exact ⟨by show 0 ≤ x % 16; omega, i, by omega, rfl⟩
            · obtain ⟨h1, j, h2, h3⟩ := hno t ht
              exact ⟨h1, j, by omega, h3⟩
          · exact (ho.trans' o4 (fun y hy hlt => absurd (hF y hy) (by omega))).trans' os (by intro y hy hlt; simp only [List.mem_singleton] at hy; subst hy; have := hsgw.out; omega)
          · intro b hb
            rcases hF4 b hb with h1 | h1
            · exact hF b h1
            · exact Nat.le_trans ho.size h1
        have Hfin := Lib.hid fin
        clear hobj hS hno hrow ho hF hsF hpt hF4 os fin h4 o4 hrow4 cP A
        go_wp2_with fail
        exact ⟨Hfin.out, by simp [intOf]; omega⟩
      · have hil : i = len := by omega
        subst hil
        clear HC Hobj Hrow Ho hsgF HFw
        have A : Aside (_ ∧ _ ∧ _ ∧ _ ∧ _ ∧ _ ∧ _) := ⟨hobj, hS, hno, hrow, ho, hF, hsF⟩
        clear hobj hS hno hrow ho hF hsF
        go_wp2_with fail
        obtain ⟨hobj, hS, hno, hrow, ho, hF, hsF⟩ := A.out
        have HFx : Hid (∀ b ∈ F, w.heap.size ≤ b) := hF
        have HsF : Hid (sg ∉ F) := hsF
        go_loopw [8, 9] (fun iv _ wr => ∃ (m : Nat) (S : List Tm), iv = .int .i64 m ∧ m ≤ len' ∧ HeapObj wr hp F 200 S ∧ (∀ t ∈ S, 0 ≤ t.1 ∧ ∃ j : Nat, j < i ∧ t.2 = j) ∧
          RowMem wr 3 1 (thereL i S) sg 0 i ∧ Only [] w wr) (fun iv _ _ => len' - (intOf iv).toNat)
        case atStart => exact ⟨0, S, rfl, by omega, hobj, hno, hrow, ho⟩
        case round =>
          clear hobj hS hno hrow ho hF hsF A
          obtain ⟨m, S, rfl, hm, hobj, hno, hrow, ho⟩ := hrel
          by_cases hlt2 : m < len' ∧ 0 < i
          · obtain ⟨hml, hi0⟩ := hlt2
            obtain ⟨b, off, rfl, hbw, hcell⟩ := HC'.out (by omega)
            obtain ⟨y, hy⟩ : ∃ y, zs'[m]?.getD 0 = y := ⟨_, rfl⟩
            have hci := ho.cell (hcell m hml).1 (by simp)
            have hwf := (hcell m hml).2
            rw [List.getD_eq_getElem?_getD, hy] at hci hwf
            obtain ⟨hy0, hy1⟩ := bounds_u8 hwf
            have hip : (0 : Int) < i := by omega
            obtain ⟨kk, hkk⟩ : ∃ kk : Nat, y % (i : Int) = kk := ⟨(y % (i : Int)).toNat, by have := Int.emod_nonneg y (show (i : Int) ≠ 0 by omega); omega⟩
            have hkl : kk < i := by have := Int.emod_lt_of_pos y hip; omega
            have hkl' : (kk : Int) < i := by omega
            have hci0 := there_get (hrow.only (Only.drew (Only.refl [] wr)) (by simp)) hkl
            rw [World.cell?_drew] at hci0
            have g3 : decide (m < len') = true := by simp; omega
            have g4 : decide (0 < i) = true := by simp; omega
            have htm : y.tmod (i : Int) = y % (i : Int) := Int.tmod_eq_emod_of_nonneg hy0
            have A : Aside (_ ∧ _ ∧ _ ∧ _) := ⟨hobj, hno, hrow, ho⟩
            have fin : ∀ w4 : World, HeapObj w4 hp F 200 (dropT (kk : Int) S) → Only F wr.drew w4 → ∃ (m' : Nat) (S : List Tm), Value.int .i64 ((m : Int) + 1) = .int .i64 m' ∧ m' ≤ len' ∧ HeapObj (w4.setCell ⟨sg, kk, none⟩ (.int .i64 0)) hp F 200 S ∧ (∀ t ∈ S, 0 ≤ t.1 ∧ ∃ j : Nat, j < i ∧ t.2 = j) ∧
                RowMem (w4.setCell ⟨sg, kk, none⟩ (.int .i64 0)) 3 1 (thereL i S) sg 0 i ∧ Only [] w (w4.setCell ⟨sg, kk, none⟩ (.int .i64 0)) := by
              intro w4 h4 o4
              have o4' : Only F wr w4 := ((Only.refl _ _).drew).trans o4
              have hrow4 := hrow.only o4' HsF.out
              have os : Only [sg] w4 (w4.setCell ⟨sg, kk, none⟩ (.int .i64 0)) := (Only.refl _ _).setCell (.inl (by simp)) _
              refine ⟨m + 1, _, by go_num, by omega, h4.only os (by intro b hb; simp only [List.mem_singleton]; rintro rfl; exact HsF.out hb), fun t ht => hno t (List.mem_filter.1 ht).1, there_cell hrow4 hkl 0 (thereL_drop S hkl), ?_⟩
              exact (ho.trans' o4' (fun y hy hlt => absurd (HFx.out y hy) (by omega))).trans' os (by intro y hy hlt; simp only [List.mem_singleton] at hy; subst hy; have := hsgw.out; omega)
            have Hfin := Lib.hid fin
            have hcD := Lib.hid (heap_Drop (hobj.only (Only.drew (Only.refl [] wr)) (by simp)) (kk : Int))
            have Hth : Hid (∀ w4, Only F wr.drew w4 → w4.cell? ⟨sg, kk, none⟩ = some (.int .i64 (thereB S kk)) ∧ ∀ q, w4.frozen? ⟨sg, q, none⟩ = false) := fun w4 o4 =>
              ⟨there_get (hrow.only (((Only.refl _ _).drew).trans o4) HsF.out) hkl, fun q => (hrow.only (((Only.refl _ _).drew).trans o4) HsF.out).frozen q⟩
            clear hobj hno hrow ho hcell fin hwf hy
            cases hk : hasT (kk : Int) S with
            | true =>
              have htb : thereB S kk = 1 := by unfold thereB; rw [hk]; simp
              rw [htb] at hci0
              have Htb := Lib.hid htb
              have Hk := Lib.hid hk
              clear htb hk
              go_wp2_with fail
              go_region_with (go_at_call 20; go_must (refine hcD.out.mono ?_; rintro e w4 ⟨rfl, h4, o4⟩; rw [Hk.out]; (obtain ⟨ks, kf⟩ := Hth.out w4 o4); rw [Htb.out] at ks; have Hf := Lib.hid (Hfin.out w4 h4 o4); clear h4 o4))
              all_goals go_wp2_with fail
              all_goals exact ⟨Hf.out, by simp [intOf]; omega⟩
            | false =>
              have htb : thereB S kk = 0 := by unfold thereB; rw [hk]; simp
              rw [htb] at hci0
              have Htb := Lib.hid htb
              have Hk := Lib.hid hk
              clear htb hk
              go_wp2_with fail
              go_region_with (go_at_call 20; go_must (refine hcD.out.mono ?_; rintro e w4 ⟨rfl, h4, o4⟩; rw [Hk.out]; (obtain ⟨ks, kf⟩ := Hth.out w4 o4); rw [Htb.out] at ks; have Hf := Lib.hid (Hfin.out w4 h4 o4); clear h4 o4))
              all_goals go_wp2_with fail
              all_goals exact ⟨Hf.out, by simp [intOf]; omega⟩
          · have g : decide (m < len') = false ∨ (decide (m < len') = true ∧ decide (0 < i) = false) := by
              by_cases h1 : m < len'
              · exact .inr ⟨by simp; omega, by simp; omega⟩
              · exact .inl (by simp; omega)
            have Hno := Lib.hid hno
            have Hrow := Lib.hid hrow
            have Ho := Lib.hid ho
            have Hobj := Lib.hid hobj
            have Hl := Lib.hid (heap_len hobj)
            clear hlt2 hno hrow ho hobj HC'
            rcases g with g3 | ⟨g3, g4⟩
            all_goals
              go_wp2_with fail
              refine Hl.out.mono ?_
              rintro e w4 ⟨rfl, hw⟩
              subst hw
              go_wp2_with fail
              have Hsl : Hid (S.length ≤ 200) := by show S.length ≤ 200; have := Hobj.out.cap; omega
              go_loopw [10, 12, 13, 14] (fun lv iv _ _ wr => ∃ (lst : Int) (m : Nat) (S' : List Tm), lv = .int .i64 lst ∧ iv = .int .i64 m ∧ m + S'.length = S.length ∧ HeapObj wr hp F 200 S' ∧ (∀ t ∈ S', lst ≤ t.1 ∧ ∃ j : Nat, j < i ∧ t.2 = j) ∧
                RowMem wr 3 1 (thereL i S') sg 0 i ∧ Only [] w wr) (fun _ iv _ _ _ => S.length - (intOf iv).toNat)
              case atStart => exact ⟨-1, 0, S, rfl, rfl, by omega, Hobj.out, fun t ht => ⟨by have := (Hno.out t ht).1; omega, (Hno.out t ht).2⟩, Hrow.out, Ho.out⟩
              case round =>
                clear Hno Hrow Ho Hobj Hl g3
                obtain ⟨lst, m, S', rfl, rfl, hm, hobj, hno, hrow, ho⟩ := hrel
                have hsl := Hsl.out
                have hS5 : (S.length : Int) ≤ 200 := by omega
                cases S' with
                | nil =>
                  have hmS : m = S.length := by simpa using hm
                  have HmS := Lib.hid hmS
                  have g5 : decide (m < S.length) = false := by simp; omega
                  have Hobj := Lib.hid hobj
                  have Hrow := Lib.hid hrow
                  have Ho := Lib.hid ho
                  clear hm hmS hno hobj hrow ho
                  go_wp2_with fail
                  go_loopw [15] (fun iv wr' => ∃ q : Nat, iv = .int .i64 q ∧ q ≤ i ∧ wr' = wr) (fun iv _ => i - (intOf iv).toNat)
                  case atStart => exact ⟨0, rfl, by omega, rfl⟩
                  case round =>
                    obtain ⟨q, rfl, hq, rfl⟩ := hrel
                    by_cases hqi : q < i
                    · have hcq := there_get Hrow.out hqi
                      have hz : thereB [] q = 0 := rfl
                      rw [hz] at hcq
                      clear hz
                      go_wp2_with fail
                      go_roundw
                      case rel => exact ⟨q + 1, by go_num, by omega, by simp⟩
                      case measure => simp [intOf]; omega
                    · have g6 : decide (q < i) = false := by simp; omega
                      have Hl := Lib.hid (heap_len Hobj.out)
                      go_wp2_with fail
                      refine Hl.out.mono ?_
                      rintro e w4 ⟨rfl, hw⟩
                      subst hw
                      go_wp2_with fail
                      go_ret
                      exact ⟨rfl, Ho.out⟩
                | cons t S'' =>
                  have hmS : m < S.length := by simp only [List.length_cons] at hm; omega
                  have g5 : decide (m < S.length) = true := by simp; omega
                  obtain ⟨hlt1, j, hj, htj⟩ := hno t (by simp)
                  obtain ⟨tv, tn⟩ := t
                  simp only at hlt1 htj
                  subst htj
                  have hnos : ∀ x ∈ S'', tv ≤ x.1 ∧ ∃ j : Nat, j < i ∧ x.2 = j := fun x hx => by
                    have h1 := (List.pairwise_cons.1 hobj.sorted).1 x hx
                    refine ⟨?_, (hno x (by simp [hx])).2⟩
                    have h2 := le_of_lt h1
                    unfold le at h2
                    simp only at h2
                    omega
                  have hdr : dropT (j : Int) ((tv, (j : Int)) :: S'') = S'' := dropT_cons (t := (tv, (j : Int))) hobj.nos
                  have htb : thereB ((tv, (j : Int)) :: S'') j = 1 := by unfold thereB hasT; simp
                  have Hpop := Lib.hid (heap_Pop hobj)
                  have A : Aside (_ ∧ _ ∧ _ ∧ _ ∧ _ ∧ _) := ⟨hm, hrow, ho, hnos, hdr, htb⟩
                  clear hm hrow ho hnos hdr htb hno hobj
                  go_wp2_with fail
                  refine Hpop.out.mono ?_
                  rintro e w4 ⟨rfl, hobj4, ho4⟩
                  simp only [firstV]
                  obtain ⟨hm, hrow, ho, hnos, hdr, htb⟩ := A.out
                  have hrow4 := hrow.only ho4 HsF.out
                  have k1 := there_get hrow4 hj
                  rw [htb] at k1
                  have f1 : ∀ q, w4.frozen? ⟨sg, q, none⟩ = false := fun q => hrow4.frozen q
                  have hsg4 := hrow4.lt
                  have hj0 : decide ((j : Int) < 0) = false := by simp
                  have hj1 : decide (i ≤ j) = false := by simp; omega
                  have hj2 : (j : Int) < i := by omega
                  have hl0 : decide (tv < lst) = false := by simp; omega
                  have oa : Only [] w4 (w4.alloc (.cells #[.int .i64 tv, .int .i64 j] 30)) := (Only.refl _ _).alloc _
                  have os : Only [sg] w4 ((w4.setCell ⟨sg, j, none⟩ (.int .i64 0)).alloc (.cells #[.int .i64 tv, .int .i64 j] 30)) := ((Only.refl _ _).setCell (.inl (by simp)) _).alloc _
                  have hr5 := there_cell hrow4 hj 0 (thereL_drop _ hj)
                  rw [hdr] at hr5
                  have fin : ∃ (lst : Int) (m' : Nat) (S' : List Tm), Value.int .i64 tv = .int .i64 lst ∧ Value.int .i64 ((m : Int) + 1) = .int .i64 m' ∧ m' + S'.length = S.length ∧ HeapObj ((w4.setCell ⟨sg, j, none⟩ (.int .i64 0)).alloc (.cells #[.int .i64 tv, .int .i64 j] 30)) hp F 200 S' ∧ (∀ t ∈ S', lst ≤ t.1 ∧ ∃ j : Nat, j < i ∧ t.2 = j) ∧
                      RowMem ((w4.setCell ⟨sg, j, none⟩ (.int .i64 0)).alloc (.cells #[.int .i64 tv, .int .i64 j] 30)) 3 1 (thereL i S') sg 0 i ∧ Only [] w ((w4.setCell ⟨sg, j, none⟩ (.int .i64 0)).alloc (.cells #[.int .i64 tv, .int .i64 j] 30)) := by
                    refine ⟨tv, m + 1, S'', rfl, by go_num, by simp only [List.length_cons] at hm; omega, hobj4.only os (by intro b hb; simp only [List.mem_singleton]; rintro rfl; exact HsF.out hb), hnos, hr5.only ((Only.refl [] _).alloc _) (by simp), ?_⟩
                    exact (ho.trans' ho4 (fun y hy hlt => absurd (HFx.out y hy) (by omega))).trans' os (by intro y hy hlt; simp only [List.mem_singleton] at hy; subst hy; have := hsgw.out; omega)
                  have Hfin := Lib.hid fin
                  clear hm hrow ho hnos hdr htb hrow4 hr5 os oa fin hobj4 ho4 A Hpop
                  go_wp2_with fail
                  exact ⟨Hfin.out, by simp [intOf]; omega⟩

end Go.Proofs.Ytcppnmogdmpdbaa
