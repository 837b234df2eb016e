/- The laws' own small functions of layer 4, walked: State, Marks, p0, fill. -/
import Derived.Test.YtfnbkcdcdeojfaaDoorCp
set_option linter.unusedVariables false
set_option linter.unusedSimpArgs false
namespace Go.Proofs.YtfnbkcdcdeojfaaDoor
open Go.RowKit Go.Mk Go.Cx
attribute [-go_sem] Builtin.append_

/-- A slice of integers that came in, as the shells tell it. -/
def InRow (k : IntKind) (w : World) (a : Option Addr) (len cap : Nat) (zs : List Int) : Prop :=
  (a = none ∧ len = 0 ∧ cap = 0 ∧ zs = []) ∨
  ∃ x, a = some x ∧ len ≤ cap ∧ cap ≤ maxLen ∧ zs.length = cap ∧ (∀ i, i < zs.length → w.cell? (x.add i) = some (.int k (zs.getD i 0))) ∧ ∀ n ∈ zs, (Lit.int k n).wf = true

/-- The elements of such a slice, each in its cell. -/
theorem InRow.cells {k : IntKind} {w : World} {a : Option Addr} {len cap : Nat} {zs : List Int} (h : InRow k w a len cap zs) :
    len ≤ maxLen ∧ (0 < len → ∃ b off, a = some ⟨b, off, none⟩ ∧ b < w.heap.size ∧ ∀ i, i < len → w.cell? ⟨b, off + i, none⟩ = some (.int k (zs.getD i 0)) ∧ (Lit.int k (zs.getD i 0)).wf = true) := by
  rcases h with ⟨rfl, rfl, rfl, rfl⟩ | ⟨⟨b, off, spot⟩, rfl, hl, hm, hz, hcell, hwz⟩
  · exact ⟨by simp [maxLen], fun h => absurd h (by omega)⟩
  · refine ⟨by omega, fun h0 => ?_⟩
    have hc := hcell 0 (by omega)
    have hspot : spot = none := by simpa [Addr.add] using World.cell?_spot hc
    subst hspot
    have hadd : ∀ i, (⟨b, off, none⟩ : Addr).add i = ⟨b, off + i, none⟩ := fun i => by unfold Addr.add; split <;> simp_all
    refine ⟨b, off, rfl, World.block_lt_of_cell? w _ (by simpa [Addr.add] using hc), fun i hi => ⟨by rw [← hadd]; exact hcell i (by omega), ?_⟩⟩
    have hi' : i < zs.length := by omega
    rw [List.getD_eq_getElem?_getD, List.getElem?_eq_getElem hi']
    exact hwz _ (List.getElem_mem hi')
/-- What a walk needs of it: its length, and each element as a number of its kind. -/
def Bytes8 (w : World) (a : Option Addr) (len : Nat) : Prop := len ≤ maxLen ∧ (0 < len → ∃ b off, a = some ⟨b, off, none⟩ ∧ b < w.heap.size ∧ ∀ i, i < len → ∃ x : Nat, x < 256 ∧ w.cell? ⟨b, off + i, none⟩ = some (.int .u8 x))
theorem InRow.bytes8 {w : World} {a : Option Addr} {len cap : Nat} {zs : List Int} (h : InRow .u8 w a len cap zs) : Bytes8 w a len := by
  obtain ⟨h1, h2⟩ := h.cells
  refine ⟨h1, fun h0 => ?_⟩
  obtain ⟨b, off, e, hb, hc⟩ := h2 h0
  refine ⟨b, off, e, hb, fun i hi => ?_⟩
  obtain ⟨h3, h4⟩ := hc i hi
  have hx := bounds_u8 h4
  refine ⟨(zs.getD i 0).toNat, by omega, ?_⟩
  rw [h3, show ((zs.getD i 0).toNat : Int) = zs.getD i 0 by omega]
theorem Bytes8.only {w w' : World} {S : List Nat} {a : Option Addr} {len : Nat} (h : Bytes8 w a len) (ho : Only S w w') (hs : ∀ k ∈ S, w.heap.size ≤ k) : Bytes8 w' a len := by
  refine ⟨h.1, fun h0 => ?_⟩
  obtain ⟨b, off, e, hb, hc⟩ := h.2 h0
  refine ⟨b, off, e, ho.lt hb, fun i hi => ?_⟩
  obtain ⟨x, hx, hcx⟩ := hc i hi
  exact ⟨x, hx, ho.cell hcx (fun hm => by have := hs _ hm; simp at this; omega)⟩

def wordsS : List ByteArray := [⟨#[97, 61, 49]⟩, ⟨#[111, 116, 61, 116, 104, 58, 56]⟩, ⟨#[111, 116, 61, 116, 104, 58, 56, 59, 114, 118, 58, 48, 48, 48, 48, 48, 48, 48, 48, 48, 48, 48, 48, 49, 102]⟩, ⟨#[98, 61, 120, 32, 121]⟩, ⟨#[107, 45, 49, 42, 61, 33, 126]⟩, ⟨#[44]⟩, ⟨#[111, 116, 61, 114, 118, 58, 48, 48, 48, 48, 48, 48, 48, 48, 48, 48, 48, 48, 48, 48]⟩, ⟨#[111, 116, 61, 120, 58, 49, 59, 116, 104, 58, 99]⟩, ⟨#[111, 116, 61, 116, 104, 58]⟩, ⟨#[111, 116, 61, 116, 104, 58, 48, 59, 116, 104, 58, 49]⟩, ⟨#[65, 61, 49]⟩, ⟨#[97]⟩, ⟨#[61, 49]⟩, ⟨#[122, 64, 98, 61, 111, 107]⟩, ⟨#[111, 116, 61]⟩, ⟨#[111, 116, 61, 116, 104, 58, 49, 50, 51, 52, 53, 54, 55, 56, 57, 97, 98, 99, 100, 101]⟩, ⟨#[111, 116, 61, 116, 104, 58, 49, 50, 51, 52, 53, 54, 55, 56, 57, 97, 98, 99, 100, 101, 102]⟩, ⟨#[113, 47, 61, 59, 59]⟩, ⟨#[111, 116, 61, 116, 104, 58, 52, 59]⟩, ⟨#[97, 61, 50]⟩]
def wordsV : Array Value := (wordsS.map Value.string).toArray
theorem words_size : ∀ x ∈ wordsS, x.size ≤ 25 := by decide
theorem words_at {w : World} {b k : Nat} (h : w.heap[b]? = some (.cells wordsV 9 (0, 0))) (hk : k < 20) : ∃ x : ByteArray, x.size ≤ 25 ∧ w.cell? ⟨b, k, none⟩ = some (.string x) := by
  have hl : wordsS.length = 20 := rfl
  refine ⟨wordsS[k], words_size _ (List.getElem_mem _), ?_⟩
  rw [cell_of_blk h]
  unfold wordsV
  rw [List.getElem?_toArray, List.getElem?_map, List.getElem?_eq_getElem (by omega)]
  rfl

set_option maxRecDepth 100000 in
set_option maxHeartbeats 2000000 in
theorem state_walk (a : Option Addr) (len cap : Nat) (w : World) (h : Bytes8 w a len) :
    Calls Tryd.prog 17 #[.slice a len cap] w fun e w' => ∃ s : ByteArray, e = .returned (.string s) ∧ s.size ≤ 300 ∧ Only [] w w' := by
  have oa : Only [] w (w.alloc (.cells wordsV 9)) := (Only.refl _ _).alloc _
  have hb := heap_alloc_new w (.cells wordsV 9)
  have hl1 : (len : Int) ≤ 9223372036854775807 := by have := h.1; simp only [maxLen] at this; omega
  have H1 := Lib.hid (h.only oa (by simp)).2
  have OA := Lib.hid oa
  have HB := Lib.hid hb
  clear oa hb h
  go_enter Tryd.func17, Tryd.ntmps17
  go_wp2_with fail
  obtain ⟨w1, hw1⟩ : ∃ w1, w1 = w.alloc (.cells wordsV 9) := ⟨_, rfl⟩
  have hw1' := hw1
  unfold wordsV wordsS at hw1'
  simp only [List.map_cons, List.map_nil] at hw1'
  rw [← hw1] at H1 OA HB
  rw [← hw1']
  generalize hbn : w.heap.size = b1 at *
  have hb1 := lt_of_blk HB.out
  clear hw1 hw1' hbn
  go_loop [4, 5] (fun sv iv => ∃ (i : Nat) (s : ByteArray), sv = .string s ∧ iv = .int .i64 i ∧ i ≤ 8 ∧ s.size ≤ 26 * i) (fun _ iv => 8 - (intOf iv).toNat)
  case atStart => exact ⟨0, ⟨#[]⟩, rfl, rfl, by omega, by decide⟩
  case round =>
    obtain ⟨i, s, rfl, rfl, hi, hs⟩ := hrel
    by_cases hlt : i < len ∧ i < 8
    · obtain ⟨h1, h2⟩ := hlt
      obtain ⟨b, off, rfl, hb, hc⟩ := H1.out (by omega)
      obtain ⟨x, hx, hcx⟩ := hc i h1
      obtain ⟨wd, hwd, hcw⟩ := words_at HB.out (show x % 20 < 20 by omega)
      have e1 : decide (i < len) = true := decide_eq_true h1
      have e2 : decide ((i : Int) < 8) = true := decide_eq_true (by omega)
      have e3 : ((x : Int)).tmod 20 = ((x % 20 : Nat) : Int) := by rw [Int.tmod_eq_emod_of_nonneg (by omega)]; omega
      have e4 : (x : Int) % 20 = ((x % 20 : Nat) : Int) := by omega
      have hxq : ((x % 20 : Nat) : Int) < 20 := by omega
      generalize x % 20 = q at *
      have hs2 : (s.size : Int) ≤ 208 := by omega
      have hs3 : s.size ≤ 208 := by omega
      have HS := Lib.hid hs
      clear hc hs
      by_cases h0 : 0 < i
      · have e5 : decide (0 < (i : Int)) = true := decide_eq_true (by omega)
        have e6 : decide (0 < i) = true := decide_eq_true h0
        go_wp2_with fail
        go_round
        case rel => exact ⟨i + 1, _, rfl, by go_num, by omega, by have := HS.out; have e : (⟨#[44]⟩ : ByteArray).size = 1 := rfl; simp; omega⟩
        case measure => simp [intOf]; omega
      · have e5 : decide (0 < (i : Int)) = false := decide_eq_false (by omega)
        have e6 : decide (0 < i) = false := decide_eq_false h0
        go_wp2_with fail
        go_round
        case rel => exact ⟨i + 1, _, rfl, by go_num, by omega, by have := HS.out; simp; omega⟩
        case measure => simp [intOf]; omega
    · have O1 := Lib.hid OA.out
      by_cases h1 : i < len
      · have e1 : decide (i < len) = true := decide_eq_true h1
        have e2 : decide ((i : Int) < 8) = false := decide_eq_false (by omega)
        go_wp2_with fail
        go_ret
        exact ⟨s, rfl, by omega, OA.out⟩
      · have e1 : decide (i < len) = false := decide_eq_false h1
        go_wp2_with fail
        go_ret
        exact ⟨s, rfl, by omega, OA.out⟩

set_option maxRecDepth 100000 in
set_option maxHeartbeats 2000000 in
theorem lawmarks_walk (a b t r : Nat) (w : World) (ha : a < 256) (hb : b < 256) (ht : t < big) (hr : r < big) :
    Calls Tryd.prog 18 #[.int .u8 a, .int .u8 b, .int .u64 t, .int .u64 r] w fun e w' => ∃ mk : Mk, e = .returned (.agg (mkArr mk)) ∧ mk.t < big ∧ mk.r < big ∧ Only [] w w' := by
  obtain ⟨T, hT, hTb⟩ : ∃ T : Nat, IntKind.u64.wrap (((t : Int) % 72057594037927936) / 2 ^ (a / 4) * 2 ^ (a / 4)) = (T : Int) ∧ T < big := by
    rw [wrap_u64]
    generalize ((t : Int) % 72057594037927936) / 2 ^ (a / 4) * 2 ^ (a / 4) = X
    exact ⟨(X % 18446744073709551616).toNat, by omega, by unfold big; omega⟩
  obtain ⟨R, hR, hRb⟩ : ∃ R : Nat, (r : Int) % 72057594037927936 = (R : Int) ∧ R < big := ⟨r % 72057594037927936, by omega, by unfold big; omega⟩
  have HT := Lib.hid hT
  have HR := Lib.hid hR
  have HB := Lib.hid (And.intro hTb hRb)
  clear hT hR hTb hRb
  by_cases h1 : a % 2 = 0 <;> by_cases h2 : b % 2 = 0
  all_goals
    have e1 : ((a : Int) % 2 == 0) = decide (a % 2 = 0) := by
      rw [Bool.eq_iff_iff]; simp; omega
    have e2 : ((b : Int) % 2 == 0) = decide (b % 2 = 0) := by
      rw [Bool.eq_iff_iff]; simp; omega
    simp only [h1, h2, decide_true, decide_false] at e1 e2
    clear h1 h2
    go_enter Tryd.func18, Tryd.ntmps18
    go_wp2_with fail
  · exact bodyPost_ret (v := .agg #[.bool true, .int .u64 (T : Int), .bool true, .int .u64 (R : Int)]) (by simp [results, Tryd.results18, go_sem, HT.out, HR.out]) rfl ⟨⟨true, T, true, R⟩, rfl, HB.out.1, HB.out.2, ((Only.refl _ _).alloc _).alloc _⟩
  · exact bodyPost_ret (v := .agg #[.bool true, .int .u64 (T : Int), .bool false, .int .u64 0]) (by simp [results, Tryd.results18, go_sem, HT.out, HR.out]) rfl ⟨⟨true, T, false, 0⟩, rfl, HB.out.1, (by decide : (0 : Nat) < big), ((Only.refl _ _).alloc _).alloc _⟩
  · exact bodyPost_ret (v := .agg #[.bool false, .int .u64 0, .bool true, .int .u64 (R : Int)]) (by simp [results, Tryd.results18, go_sem, HT.out, HR.out]) rfl ⟨⟨false, 0, true, R⟩, rfl, (by decide : (0 : Nat) < big), HB.out.2, ((Only.refl _ _).alloc _).alloc _⟩
  · exact bodyPost_ret (v := .agg #[.bool false, .int .u64 0, .bool false, .int .u64 0]) (by simp [results, Tryd.results18, go_sem, HT.out, HR.out]) rfl ⟨⟨false, 0, false, 0⟩, rfl, by decide, by decide, ((Only.refl _ _).alloc _).alloc _⟩

set_option maxRecDepth 100000 in
set_option maxHeartbeats 2000000 in
theorem p0_walk (p : Pa) (w : World) (hp : p.hi < big ∧ p.lo < big ∧ p.span < big ∧ p.flags < 256) :
    Calls Tryd.prog 20 #[.agg (paArr p)] w fun e w' => e = .returned (.string ⟨(printL p).1.toArray⟩) ∧ Only [] w w' := by
  have oa := (Only.refl [] w).alloc (.cells (paArr p) 33)
  have C := Lib.hid (print_walk p (w.alloc (.cells (paArr p) 33)) hp)
  have OA := Lib.hid oa
  clear oa hp
  obtain ⟨h, l, s, f⟩ := p
  simp only [paArr] at *
  go_enter Tryd.func20, Tryd.ntmps20
  go_wp2_with fail
  refine C.out.mono ?_
  rintro e w2 ⟨rfl, o2⟩
  have O2 := Lib.hid (OA.out.trans o2)
  clear o2 C
  go_wp2_with fail
  go_ret
  exact ⟨rfl, O2.out⟩

def fillS (n : Nat) : ByteArray := ⟨(List.replicate n 120).toArray⟩
theorem fillS_size (n : Nat) : (fillS n).size = n := by show (List.replicate n (120 : UInt8)).toArray.size = n; simp
theorem fillS_data (n : Nat) : (fillS n).data.toList = List.replicate n 120 := rfl
theorem fillS_succ (n : Nat) : fillS n ++ ⟨#[120]⟩ = fillS (n + 1) := by
  apply data_inj
  rw [cat_data, fillS_data, fillS_data, List.replicate_succ']
set_option maxRecDepth 100000 in
set_option maxHeartbeats 2000000 in
theorem fill_walk (n : Nat) (w : World) (hn : n ≤ 1000) :
    Calls Tryd.prog 21 #[.int .i64 n] w fun e w' => e = .returned (.string (fillS n)) ∧ w' = w := by
  go_enter Tryd.func21, Tryd.ntmps21
  go_wp2_with fail
  go_loop [3, 4] (fun sv iv => ∃ (i : Nat), sv = .string (fillS i) ∧ iv = .int .i64 i ∧ i ≤ n) (fun _ iv => n - (intOf iv).toNat)
  case atStart => exact ⟨0, rfl, rfl, by omega⟩
  case round =>
    obtain ⟨i, rfl, rfl, hi⟩ := hrel
    have hsz : (fillS i).size ≤ 1000 := by rw [fillS_size]; omega
    by_cases h : i < n
    · have e1 : decide (i < n) = true := decide_eq_true h
      have HC := Lib.hid (fillS_succ i)
      go_wp2_with fail
      go_round
      case rel => exact ⟨i + 1, by rw [HC.out], by go_num, by omega⟩
      case measure => simp [intOf]; omega
    · have e1 : decide (i < n) = false := decide_eq_false h
      go_wp2_with fail
      go_ret
      refine ⟨?_, rfl⟩
      rw [show i = n by omega]
      rfl

end Go.Proofs.YtfnbkcdcdeojfaaDoor
