/- TailOrder: the law, walked. -/
import Derived.Test.YtcppnmogdmpdbaaKj
set_option linter.unusedVariables false
set_option linter.unusedSimpArgs false
namespace Go.Proofs.Ytcppnmogdmpdbaa
open Go.RowKit Go.Mk Go.Hp
attribute [-go_sem] Builtin.append_

def encN (k : Nat) : List Value := [.int .i64 k]

/-- What is noted of k: it came. -/
def seenN (L : List Nat) (k : Nat) : Int := if k ∈ L then 1 else 0
structure SeenAt16 (w : World) (b : Nat) (L : List Nat) : Prop where
  cell : ∀ k : Nat, k < 16 → w.cell? ⟨b, k, none⟩ = some (.int .i64 (seenN L k))
  fz : ∀ k : Nat, w.frozen? ⟨b, k, none⟩ = false
theorem SeenAt16.keep {w w' : World} {b : Nat} {L : List Nat} (h : SeenAt16 w b L) (hk : w'.heap[b]? = w.heap[b]?) : SeenAt16 w' b L :=
  ⟨fun k hk' => (World.cell?_of_block (a := ⟨b, k, none⟩) hk).trans (h.cell k hk'), fun k => (World.frozen?_of_block (a := ⟨b, k, none⟩) hk).trans (h.fz k)⟩

theorem replicate_get {n k : Nat} (v : Value) (h : k < n) : (Array.replicate n v)[k]? = some v := by
  rw [Array.getElem?_replicate, if_pos h]

/-- The first ones, in order: those that wait. -/
structure Firsts (A : List Ab) (L : List Nat) (d : Int) : Prop where
  trs : A.map (·.tr) = L.map (fun k : Nat => ((0 : Int), (k : Int) + 1))
  due : ∀ a ∈ A, a.due = d
  nd : L.Nodup
  lt : ∀ k ∈ L, k < 16

theorem firsts_more {A : List Ab} {L : List Nat} {d came : Int} (h : Firsts A L d) (k : Nat) (hk : k < 16) : Firsts (takeA A came d (sp0 0 ((k : Int) + 1))) (if k ∈ L then L else L ++ [k]) d := by
  have hm : (sp0 0 ((k : Int) + 1)).tr ∈ A.map (·.tr) ↔ k ∈ L := by
    rw [h.trs, List.mem_map]
    constructor
    · rintro ⟨j, hj, he⟩
      simp only [sp0, Prod.mk.injEq, true_and] at he
      have : j = k := by omega
      rw [← this]; exact hj
    · intro hk
      exact ⟨k, hk, rfl⟩
  refine ⟨?_, take_due h.due rfl, ?_, ?_⟩
  · unfold takeA
    by_cases hkL : k ∈ L
    · rw [if_pos (hm.2 hkL), if_pos hkL, List.map_map, ← h.trs]
      refine List.map_congr_left (fun a ha => ?_)
      show (if a.tr = _ then a.more _ else a).tr = a.tr
      split <;> rfl
    · rw [if_neg (fun h1 => hkL (hm.1 h1)), if_neg hkL, List.map_append, List.map_append, h.trs]
      rfl
  · split
    · exact h.nd
    · rename_i hkL
      rw [List.nodup_append]
      exact ⟨h.nd, by simp, fun x hx y hy he => hkL (by rw [List.mem_singleton] at hy; rw [← hy, ← he]; exact hx)⟩
  · intro j hj
    split at hj
    · exact h.lt j hj
    · rcases List.mem_append.1 hj with hj | hj
      · exact h.lt j hj
      · rw [List.mem_singleton.1 hj]; exact hk

theorem nodup_le16 {L : List Nat} (hn : L.Nodup) (hl : ∀ k ∈ L, k < 16) : L.length ≤ 16 := by
  have h1 : L.length ≤ (List.range 16).length := List.Nodup.length_le_of_subset hn (fun k hk => List.mem_range.2 (hl k hk))
  simpa using h1

theorem SeenAt16.put {w : World} {b k : Nat} {L : List Nat} (h : SeenAt16 w b L) (hk : k < 16) : SeenAt16 (w.setCell ⟨b, k, none⟩ (.int .i64 1)) b (if k ∈ L then L else L ++ [k]) := by
  refine ⟨fun j hj => ?_, fun j => by rw [World.frozen?_setCell]; exact h.fz j⟩
  by_cases hjk : j = k
  · subst hjk
    rw [World.cell?_setCell_same _ _ _ (h.cell j hj)]
    unfold seenN
    by_cases hL : j ∈ L
    · rw [if_pos hL, if_pos hL]
    · rw [if_neg hL, if_pos (by simp)]
  · rw [World.cell?_setCell_other _ _ _ _ (by simp only [ne_eq, Addr.mk.injEq, true_and, and_true]; exact fun h => hjk h.symm), h.cell j hj]
    unfold seenN
    by_cases hL : k ∈ L
    · rw [if_pos hL]
    · rw [if_neg hL]
      simp [hjk]

theorem keep_row {w w' : World} {e k : Nat} {xs : List (List Value)} {sv : Value} (h : SliceIs w e k xs sv) (hk : ∀ b ∈ blockOf sv, w'.heap[b]? = w.heap[b]?) : SliceIs w' e k xs sv := by
  cases h with
  | nil => exact .nil
  | row hr =>
    obtain ⟨cur, hb, hc, hg⟩ := hr.blk
    exact .row ⟨hr.wide, ⟨cur, (hk _ (by simp [blockOf])).trans hb, hc, hg⟩, hr.fits, hr.top⟩

/-- One number more at a row's end. -/
theorem int_append {w : World} {L : List Nat} {sv : Value} (h : SliceIs w 3 1 (L.map encN) sv) (hl : L.length ≤ 1000) (k : Nat) :
    ∃ g off cap' w', (Builtin.append_ #[22, 22] 22 #[sv, .slice (some ⟨w.heap.size, 0, none⟩) 1 1]).run Try.prog (w.alloc (.cells #[.int .i64 k] 3)) = .ok (.slice (some ⟨g, off, none⟩) (L.length + 1) cap') w' ∧
      SliceIs w' 3 1 ((L ++ [k]).map encN) (.slice (some ⟨g, off, none⟩) (L.length + 1) cap') ∧ Only (blockOf sv) w w' ∧ (g ∈ blockOf sv ∨ w.heap.size ≤ g) := by
  have oW : Only [] w (w.alloc (.cells #[.int .i64 k] 3)) := (Only.refl [] _).alloc _
  have hBn := heap_alloc_new w (.cells #[.int .i64 k] 3)
  obtain ⟨i0, hi0, hz0, hz1, hz2⟩ := info_int
  obtain ⟨g, off, cap', w', hap, hrm, o6, hg⟩ := run_append_is (P := Try.prog) (t := 22) (ty := 22) (a := ⟨w.heap.size, 0, none⟩) (m := 1) (c := 1) (news := [encN k]) Try.underlying22 hi0 hz0 hz1 hz2 rfl
    (h.only oW (by simp)) rfl (by simp [encN]) (by
      intro j v hj
      have hadd : (⟨w.heap.size, 0, none⟩ : Addr).add j = ⟨w.heap.size, j, none⟩ := by unfold Addr.add; split <;> simp_all
      rw [hadd]
      refine (cell_of_blk hBn).trans ?_
      rw [show (#[Value.int .i64 (k : Int)] : Array Value) = [Value.int .i64 (k : Int)].toArray from rfl, List.getElem?_toArray]
      simpa [encN] using hj) (by simp [encN, Value.oneCell']) (by omega) (by simp only [List.length_map, maxLen]; omega) (by rw [List.length_map]; omega)
  rw [List.length_map] at hap
  refine ⟨g, off, cap', w', hap, ?_, (oW.mono (by simp)).trans o6, hg.imp id (fun h => Nat.le_trans oW.size h)⟩
  have h3 := SliceIs.row hrm
  rw [List.length_append, List.length_map, List.length_singleton] at h3
  rw [List.map_append]
  exact h3

set_option maxRecDepth 100000 in
set_option maxHeartbeats 4000000 in
theorem order_walk (a0 : Int) (a : Option Addr) (len cap : Nat) (zs : List Int) (w : World) (w0 : (Lit.int .u8 a0).wf = true) (h : InRow .u8 w a len cap zs) :
    Calls Try.prog 8 #[.int .u8 a0, .slice a len cap] w fun e w' => e = .returned (.bool true) ∧ Only [] w w' := by
  obtain ⟨h00, h01⟩ := bounds_u8 w0
  obtain ⟨hl, hc⟩ := h.cells
  have HC := Lib.hid hc
  obtain ⟨m, hm⟩ : ∃ m : Nat, a0 % 9 = m := ⟨(a0 % 9).toNat, by omega⟩
  have hm20 : (m : Int) < 9 := by omega
  have hm0 : (0 : Int) ≤ m := by omega
  have hlm : (len : Int) ≤ 9223372036854775807 := by simp only [maxLen] at hl; omega
  have htm : a0.tmod 9 = m := by rw [Int.tmod_eq_emod_of_nonneg h00]; exact hm
  clear hc h hl w0 hm h01
  by_cases h60 : 100 < len
  · have g1 : decide (100 < (len : Int)) = true := decide_eq_true (by omega)
    go_enter Try.func8, Try.ntmps8
    go_wp2_with fail
    refine (town_new 200 (1 + (m : Int)) 1 (by omega) (by omega) (by omega) (by omega) (by omega) (by omega)).mono ?_
    rintro e w1 ⟨tp, rfl, h1⟩
    have H1 := Lib.hid h1
    clear h1
    go_wp2_with fail
    refine (known13 _).mono ?_
    rintro e w2 ⟨rfl, o2⟩
    have H2 := Lib.hid (H1.out.only o2 (by simp) (by simp)).out
    clear o2 H1
    go_wp2_with fail
    go_ret
    exact ⟨rfl, H2.out⟩
  have g1 : decide (100 < (len : Int)) = false := decide_eq_false (by omega)
  go_enter Try.func8, Try.ntmps8
  go_wp2_with fail
  refine (town_new 200 (1 + (m : Int)) 1 (by omega) (by omega) (by omega) (by omega) (by omega) (by omega)).mono ?_
  rintro e w1 ⟨tp, rfl, h1⟩
  have H1 := Lib.hid h1
  clear h1
  go_wp2_with fail
  refine (known13 _).mono ?_
  rintro e w2 ⟨rfl, o2⟩
  have H2 := Lib.hid (H1.out.only o2 (by simp) (by simp))
  clear o2 H1
  have hw2 : w.heap.size ≤ w2.heap.size := H2.out.out.size
  go_wp2_with fail
  obtain ⟨c, hcb⟩ : ∃ c, w2.heap.size = c := ⟨_, rfl⟩
  rw [hcb]
  have Hcb := Lib.hid hcb
  rw [hcb] at hw2
  clear hcb
  go_loopw [6, 8, 9] (fun fv iv _ wr => ∃ (i : Nat) (sv : Value) (L : List Nat) (came : Int) (A : List Ab), iv = .int .i64 i ∧ i ≤ len ∧ sv = fv ∧ came ≤ i ∧ spansA A = i ∧ TObj w (c :: blockOf sv) wr tp 200 (1 + (m : Int)) 1 0 came (fun _ => none) A ∧ Firsts A L (0 + (1 + (m : Int))) ∧
    SeenAt16 wr c L ∧ SliceIs wr 3 1 (L.map encN) sv ∧ (∀ x ∈ blockOf sv, w.heap.size ≤ x ∧ x ≠ c)) (fun _ iv _ _ => len - (intOf iv).toNat)
  case atStart =>
    have hcb := Hcb.out
    refine ⟨0, .slice none 0 0, [], 0, [], rfl, by omega, rfl, by omega, rfl, ?_, ⟨rfl, by simp, by simp, by simp⟩, ⟨fun k hk => ?_, fun k => ?_⟩, .nil, by simp [blockOf]⟩
    · rw [← hcb]
      exact H2.out.swap ((Only.refl [] w2).alloc _) (by simp) (by simp) (fun x hx => .inr (by simp [blockOf] at hx; omega)) (fun x hx => by simp [blockOf] at hx; rw [hx]; simp)
    · rw [← hcb]
      exact (cell_of_blk (heap_alloc_new w2 _)).trans ((replicate_get (n := 16) (.int .i64 0) hk).trans (by simp [seenN]))
    · rw [← hcb]; exact frozen_of_blk (heap_alloc_new w2 _)
  case round =>
    obtain ⟨i, sv, L, came, A, rfl, hi, rfl, hcame, hsp, hO, hF, hS, hsl, hsb⟩ := hrel
    clear H2
    obtain ⟨sp, sc, hsv⟩ := hsl.form
    rw [List.length_map] at hsv
    subst hsv
    have hL16 := nodup_le16 hF.nd hF.lt
    by_cases hil : i < len
    · obtain ⟨b, off, rfl, hbw, hcell⟩ := HC.out (by omega)
      obtain ⟨x, hx⟩ : ∃ x, zs[i]?.getD 0 = x := ⟨_, rfl⟩
      have hci := hO.out.cell (hcell i hil).1 (by simp)
      have hwf := (hcell i hil).2
      rw [List.getD_eq_getElem?_getD, hx] at hci hwf
      obtain ⟨hx0, hx1⟩ := bounds_u8 hwf
      have g2 : decide (i < len) = true := decide_eq_true hil
      obtain ⟨q, hq⟩ : ∃ q : Nat, x % 16 = q := ⟨(x % 16).toNat, by omega⟩
      have hq16 : (q : Int) < 16 := by omega
      have hqn : q < 16 := by omega
      have hq0 : (0 : Int) ≤ q := by omega
      have hxq : x.tmod 16 = q := by rw [Int.tmod_eq_emod_of_nonneg hx0]; exact hq
      have cq := hS.cell q hqn
      have fq := hS.fz
      have hcl : c < wr.heap.size := lt_of_cell cq
      have hbc : b ≠ c := by omega
      have HO := Lib.hid hO
      have HF := Lib.hid hF
      have HS := Lib.hid hS
      have Hsl := Lib.hid hsl
      have Hsb := Lib.hid hsb
      have Hsp := Lib.hid hsp
      have Hcame := Lib.hid hcame
      have Hn := Lib.hid hO.num.1
      have hcs : ∀ y ∈ blockOf (.slice sp L.length sc), y ∉ [c] := fun y hy hm => (hsb y hy).2 (by simpa using hm)
      have Hcs := Lib.hid hcs
      have HL16 := Lib.hid hL16
      clear hO hF hS hsl hsb hsp hcame hcell hwf hx hq hcs hL16
      by_cases hqL : q ∈ L
      · have hv : seenN L q = 1 := if_pos hqL
        rw [hv] at cq
        have HqL := Lib.hid hqL
        clear hqL hv
        go_wp2_with fail
        have o1 := only_setTp wr c q (.int .i64 1)
        refine (town_take (HO.out.only o1 (by simp) (by simpa using hw2)) 0 (sp0 0 ((q : Int) + 1)) (by omega) (by omega) rfl (by rw [Hsp.out]; omega) (by have := Hcame.out; omega)).mono ?_
        rintro e w3 ⟨rfl, h3, hk3⟩
        have hfin : ∃ (i1 : Nat) (sv : Value) (L1 : List Nat) (came1 : Int) (A1 : List Ab), Value.int .i64 ((i : Int) + 1) = .int .i64 i1 ∧ i1 ≤ len ∧ sv = .slice sp L.length sc ∧ came1 ≤ i1 ∧ spansA A1 = i1 ∧ TObj w (c :: blockOf sv) w3 tp 200 (1 + (m : Int)) 1 0 came1 (fun _ => none) A1 ∧ Firsts A1 L1 (0 + (1 + (m : Int))) ∧
            SeenAt16 w3 c L1 ∧ SliceIs w3 3 1 (L1.map encN) sv ∧ (∀ x ∈ blockOf sv, w.heap.size ≤ x ∧ x ≠ c) := by
          have hF3 := firsts_more (came := came) HF.out q hqn
          have hS3 := (HS.out.put hqn).keep (hk3 c (by simp))
          rw [if_pos HqL.out] at hF3 hS3
          exact ⟨i + 1, _, L, _, _, by go_num, by omega, rfl, by have := came_le A came (0, (q : Int) + 1); have := Hcame.out; simp only [sp0]; omega, by rw [spans_take Hn.out, Hsp.out], h3, hF3, hS3,
            keep_row (Hsl.out.only o1 Hcs.out) (fun y hy => hk3 y (List.mem_cons_of_mem _ hy)), Hsb.out⟩
        have Hfin := Lib.hid hfin
        clear h3 hk3 hfin o1
        go_wp2_with fail
        exact ⟨Hfin.out, by simp [intOf]; omega⟩
      · have hv : seenN L q = 0 := if_neg hqL
        rw [hv] at cq
        obtain ⟨g, off2, cap2, w2', hap, hsl2, o2, hg⟩ := int_append Hsl.out (by have := HL16.out; omega) q
        have HqL := Lib.hid hqL
        have hcn : c ∉ blockOf (.slice sp L.length sc) := fun hm => (Hsb.out c hm).2 rfl
        have cq2 := o2.cell cq hcn
        have fq2 : ∀ k, w2'.frozen? ⟨c, k, none⟩ = false := fun k => (World.frozen?_of_block (a := ⟨c, k, none⟩) (o2.block c hcl hcn)).trans (fq k)
        have hcl2 : c < w2'.heap.size := lt_of_cell cq2
        have hgc : w.heap.size ≤ g ∧ g ≠ c := by
          have h7 := HO.out.out.size
          rcases hg with h8 | h8
          · exact Hsb.out g h8
          · exact ⟨by omega, by omega⟩
        have hO2 : TObj w (c :: blockOf (.slice (some ⟨g, off2, none⟩) (L.length + 1) cap2)) w2' tp 200 (1 + (m : Int)) 1 0 came (fun _ => none) A := by
          refine HO.out.swap o2 (fun y hy => List.mem_cons_of_mem _ hy) (fun y hy => (Hsb.out y hy).1) (fun y hy => ?_) (fun y hy => ?_)
          · rcases List.mem_cons.1 hy with rfl | hy
            · exact .inl (by simp)
            · simp only [blockOf, List.mem_singleton] at hy
              rw [hy]
              exact hg.imp (fun h => List.mem_cons_of_mem _ h) id
          · rcases List.mem_cons.1 hy with rfl | hy
            · exact hcl2
            · exact hsl2.lt y hy
        have HO2 := Lib.hid hO2
        have Hsl2 := Lib.hid hsl2
        have Hgc := Lib.hid hgc
        have HS2 : Hid (SeenAt16 w2' c L) := HS.out.keep (o2.block c hcl hcn)
        clear hqL hv hsl2 o2 hg hcn hgc hO2
        go_wp2_with fail
        have o1 := only_setTp w2' c q (.int .i64 1)
        refine (town_take (HO2.out.only o1 (by simp) (by simpa using hw2)) 0 (sp0 0 ((q : Int) + 1)) (by omega) (by omega) rfl (by rw [Hsp.out]; omega) (by have := Hcame.out; omega)).mono ?_
        rintro e w3 ⟨rfl, h3, hk3⟩
        have hfin : ∃ (i1 : Nat) (sv : Value) (L1 : List Nat) (came1 : Int) (A1 : List Ab), Value.int .i64 ((i : Int) + 1) = .int .i64 i1 ∧ i1 ≤ len ∧ sv = .slice (some ⟨g, off2, none⟩) (L.length + 1) cap2 ∧ came1 ≤ i1 ∧ spansA A1 = i1 ∧ TObj w (c :: blockOf sv) w3 tp 200 (1 + (m : Int)) 1 0 came1 (fun _ => none) A1 ∧ Firsts A1 L1 (0 + (1 + (m : Int))) ∧
            SeenAt16 w3 c L1 ∧ SliceIs w3 3 1 (L1.map encN) sv ∧ (∀ x ∈ blockOf sv, w.heap.size ≤ x ∧ x ≠ c) := by
          have hF3 := firsts_more (came := came) HF.out q hqn
          have hS3 := (HS2.out.put hqn).keep (hk3 c (by simp))
          rw [if_neg HqL.out] at hF3 hS3
          exact ⟨i + 1, _, L ++ [q], _, _, by go_num, by omega, rfl, by have := came_le A came (0, (q : Int) + 1); have := Hcame.out; simp only [sp0]; omega, by rw [spans_take Hn.out, Hsp.out], h3, hF3, hS3,
            keep_row (Hsl2.out.only o1 (by simp [blockOf]; exact Hgc.out.2)) (fun y hy => hk3 y (List.mem_cons_of_mem _ hy)), fun y hy => by simp only [blockOf, List.mem_singleton] at hy; rw [hy]; exact Hgc.out⟩
        have Hfin := Lib.hid hfin
        clear h3 hk3 hfin o1
        go_wp2_with fail
        exact ⟨Hfin.out, by simp [intOf]; omega⟩
    · have g2 : decide (i < len) = false := decide_eq_false hil
      have HO := Lib.hid hO
      have HF := Lib.hid hF
      have Hsl := Lib.hid hsl
      have Hsb := Lib.hid hsb
      have hAL : A.length = L.length := by have := congrArg List.length hF.trs; simpa using this
      have hall := rest_all (n := 100) (A := A) (fun a ha => by rw [hF.due a ha]; omega)
      have Hall := Lib.hid hall
      have HAL := Lib.hid hAL
      clear hO hF hS hsl hsb hsp hcame hall hAL
      go_wp2_with fail
      refine (town_Due HO.out 100 (by omega) (by omega)).mono ?_
      rintro e w3 ⟨p3, c3, G3, rfl, g3, h3, hk3⟩
      rw [Hall.out.2] at g3 ⊢
      rw [HAL.out] at g3 ⊢
      have HG := Lib.hid g3
      have H3 := Lib.hid h3.out
      have Hsl3 := Lib.hid (keep_row Hsl.out (fun y hy => hk3 y (List.mem_cons_of_mem _ hy)))
      clear g3 h3 hk3 HO
      go_wp2_with fail
      go_loopw [12] (fun jv wq => ∃ (j d : Nat), jv = .int .i64 j ∧ j ≤ L.length ∧ wq = w3.drewN d) (fun jv _ => L.length - (intOf jv).toNat)
      case atStart => exact ⟨0, 0, rfl, by omega, rfl⟩
      case round =>
        obtain ⟨j, d, rfl, hj, rfl⟩ := hrel
        have hL16' : (L.length : Int) ≤ 16 := by omega
        by_cases hjl : j < L.length
        · have g4 : decide (j < L.length) = true := decide_eq_true hjl
          obtain ⟨k, hk⟩ : ∃ k, L[j]? = some k := ⟨_, List.getElem?_eq_getElem hjl⟩
          have hA : ∃ a, A[j]? = some a ∧ a.tr = ((0 : Int), (k : Int) + 1) := by
            have h5 : (A.map (·.tr))[j]? = some ((0 : Int), (k : Int) + 1) := by rw [HF.out.trs, List.getElem?_map, hk]; rfl
            rw [List.getElem?_map] at h5
            cases hA : A[j]? with
            | none => rw [hA] at h5; cases h5
            | some a => rw [hA] at h5; exact ⟨a, rfl, by simpa using h5⟩
          obtain ⟨a1, hA1, hA2⟩ := hA
          have hk16 : (k : Int) < 16 := by have := HF.out.lt k (List.mem_of_getElem? hk); omega
          have hk0 : (0 : Int) ≤ k := by omega
          obtain ⟨g, off, pa, pc, q, hp3, hg, _, _, _, x0, x1, x2⟩ := HG.out.cell (i := j) hA1
          rw [hA2] at x1
          simp only at x1
          have hfc : ∃ g2 off2, sp = some ⟨g2, off2, none⟩ ∧ g2 < w3.heap.size ∧ w3.cell? ⟨g2, off2 + j, none⟩ = some (.int .i64 k) := by
            have h5 := Hsl3.out
            generalize hX : L.map encN = Y at h5
            generalize hV : Value.slice sp L.length sc = V at h5
            cases h5 with
            | nil => obtain ⟨_, h6, _⟩ := Value.slice.inj hV; omega
            | @row _ g2 off2 cap3 hr =>
              obtain ⟨h6, _, _⟩ := Value.slice.inj hV
              subst hX
              have hx : (L.map encN)[j]? = some (encN k) := by rw [List.getElem?_map, hk]; rfl
              have h7 := hr.cell (f := 0) hx rfl
              rw [Nat.mul_one, Nat.add_zero] at h7
              exact ⟨g2, off2, h6, hr.lt, h7⟩
          obtain ⟨g2, off2, hsp2, hg2, y0⟩ := hfc
          subst hp3 hsp2
          clear hA1 hA2 hk x0 x2
          go_wp2_with fail
          go_quiet (fail)
          go_wp2_with fail
          go_roundw
          case rel => exact ⟨j + 1, d + nq, by go_num, by omega, rfl⟩
          case measure => simp [intOf]; omega
        · have g4 : decide (j < L.length) = false := decide_eq_false hjl
          go_wp2_with fail
          go_ret
          exact ⟨rfl, H3.out.drewN _⟩

end Go.Proofs.Ytcppnmogdmpdbaa
