/- Package ctx, walked: Parse. -/
import Derived.Test.YtfnbkcdcdeojfaaDoorCk
set_option linter.unusedVariables false
set_option linter.unusedSimpArgs false
namespace Go.Proofs.YtfnbkcdcdeojfaaDoor
open Go.RowKit Go.Mk Go.Cx
attribute [-go_sem] Builtin.append_

theorem parseL_size {s : ByteArray} (h : s.size ≠ 55) : parseL s.data.toList = (Pa.none, 31) := by
  unfold parseL; rw [if_pos (by rw [len_data]; exact h)]
theorem parseL_bad {s : ByteArray} {l : List ByteArray} (hd : dataL l = splitC 45 s.data.toList) (h : paOf (dataL l) = none) : parseL s.data.toList = (Pa.none, 31) := by
  unfold parseL
  by_cases h5 : s.data.toList.length ≠ 55
  · rw [if_pos h5]
  · rw [if_neg h5, ← hd, h]
theorem paOf_many {l : List (List UInt8)} (h : l.length ≠ 4) : paOf l = none := by
  unfold paOf
  split
  · rename_i a b c d
    exact absurd rfl h
  · rfl

def nArr (a b c d : Nat) (i : Nat) : Array Value := #[.int .u64 ((if 0 < i then a else 0 : Nat) : Int), .int .u64 ((if 1 < i then b else 0 : Nat) : Int), .int .u64 ((if 2 < i then c else 0 : Nat) : Int), .int .u64 ((if 3 < i then d else 0 : Nat) : Int)]
def hexes (a b c d : List UInt8) : Option Pa := match hexL a, hexL b, hexL c, hexL d with
  | some h, some l, some s, some f => some ⟨h, l, s, f % 256⟩
  | _, _, _, _ => Option.none
theorem hexOk_false {l : List UInt8} (h : hexOk l = false) : hexL l = none := by
  unfold hexOk at h
  cases hq : hexL l with
  | none => rfl
  | some v => rw [hq] at h; cases h
theorem hexOk_true {l : List UInt8} (h : hexOk l = true) : hexL l = some (hexV l) := by
  unfold hexOk at h
  unfold hexV
  cases hq : hexL l with
  | none => rw [hq] at h; cases h
  | some v => rfl
theorem hexes_none {a b c d : List UInt8} (h : hexOk a = false ∨ hexOk b = false ∨ hexOk c = false ∨ hexOk d = false) : hexes a b c d = none := by
  unfold hexes
  rcases h with h | h | h | h <;> rw [hexOk_false h]
  · rcases hexL a with _ | _ <;> rfl
  · rcases hexL a with _ | _ <;> rcases hexL b with _ | _ <;> rfl
  · rcases hexL a with _ | _ <;> rcases hexL b with _ | _ <;> rcases hexL c with _ | _ <;> rfl
theorem hexes_some {a b c d : List UInt8} (h1 : hexOk a = true) (h2 : hexOk b = true) (h3 : hexOk c = true) (h4 : hexOk d = true) : hexes a b c d = some ⟨hexV a, hexV b, hexV c, hexV d % 256⟩ := by
  unfold hexes
  rw [hexOk_true h1, hexOk_true h2, hexOk_true h3, hexOk_true h4]
theorem parseL_good {s : ByteArray} {l : List ByteArray} {p : Pa} (h5 : s.size = 55) (hd : dataL l = splitC 45 s.data.toList) (h : paOf (dataL l) = some p) : parseL s.data.toList = if (p.hi = 0 ∧ p.lo = 0) ∨ p.span = 0 then (Pa.none, 1) else (p, 0) := by
  unfold parseL
  rw [if_neg (by rw [len_data]; omega), ← hd, h]
theorem wrap8 (n : Nat) : IntKind.u8.wrap (n : Int) = ((n % 256 : Nat) : Int) := by rw [IntKind.wrap_u8]; omega

set_option maxRecDepth 100000 in
set_option maxHeartbeats 8000000 in
theorem parse_walk (s : ByteArray) (m : Int) (w : World) (hs : s.size ≤ 100000) (hm : w.cell? ⟨0, 0, none⟩ = some (.int .i64 m)) :
    Calls Tryd.prog 12 #[.string s] w fun e w' => e = .returned (.tuple #[.agg (paArr (parseL s.data.toList).1), .int .u16 ((parseL s.data.toList).2 : Nat)]) ∧ Only [] w w' := by
  have o1 := (Only.refl [] w).alloc (.cells #[.int .u64 0, .int .u64 0, .int .u64 0, .int .u8 0] 33)
  have B := heap_alloc_new w (.cells #[.int .u64 0, .int .u64 0, .int .u64 0, .int .u8 0] 33)
  have C := Lib.hid (split_walk s 45 m (w.alloc (.cells #[.int .u64 0, .int .u64 0, .int .u64 0, .int .u8 0] 33)) hs (o1.cell hm (by simp)))
  have O1 := Lib.hid o1
  have HB := Lib.hid B
  clear o1 B hm
  go_enter Tryd.func12, Tryd.ntmps12
  go_wp2_with fail
  generalize w.alloc (.cells #[.int .u64 0, .int .u64 0, .int .u64 0, .int .u8 0] 33) = w1 at *
  generalize hbk : w.heap.size = b at *
  refine C.out.mono ?_
  rintro e w2 ⟨g, l, rfl, h1, h2, h3, h4, h5⟩
  have H := Lib.hid (And.intro h1 (And.intro h2 (And.intro h3 (And.intro h4 h5))))
  have O2 := Lib.hid (O1.out.trans h4)
  have HB2 := Lib.hid (h4.blk HB.out (by simp))
  have Hbk := Lib.hid hbk
  clear h1 h2 h3 h4 h5 C O1 HB hbk
  have r0 : w2.cell? ⟨b, 0, none⟩ = some (.int .u64 0) := by rw [cell_of_blk HB2.out]; rfl
  have r1 : w2.cell? ⟨b, 1, none⟩ = some (.int .u64 0) := by rw [cell_of_blk HB2.out]; rfl
  have r2 : w2.cell? ⟨b, 2, none⟩ = some (.int .u64 0) := by rw [cell_of_blk HB2.out]; rfl
  have r3 : w2.cell? ⟨b, 3, none⟩ = some (.int .u8 0) := by rw [cell_of_blk HB2.out]; rfl
  have fz : ∀ j, w2.frozen? ⟨b, j, none⟩ = false := fun j => frozen_of_blk HB2.out
  have f0 := fz 0
  have f1 := fz 1
  have f2 := fz 2
  have f3 := fz 3
  have hbl := lt_of_blk HB2.out
  clear fz
  have hOk : Hid (∀ W, Only [b] w2 W → Only [] w W) := Lib.hid (fun W hW => O2.out.trans' hW (fun x hx hlt => by
    rw [List.mem_singleton] at hx
    have := Hbk.out
    omega))
  have hbad : Hid (parseL s.data.toList = (Pa.none, 31) → ∀ W, Only [b] w2 W → (Ending.returned (.tuple #[.agg #[.int .u64 0, .int .u64 0, .int .u64 0, .int .u8 0], .int .u16 31]) = Ending.returned (.tuple #[.agg (paArr (parseL s.data.toList).1), .int .u16 ((parseL s.data.toList).2 : Nat)]) ∧ Only [] w W)) :=
    Lib.hid (fun h W hW => ⟨by rw [h]; rfl, hOk.out W hW⟩)
  by_cases hsz : s.size = 55
  · have g1 : ((s.size : Int) == 55) = true := by rw [beq_iff_eq]; omega
    by_cases h4 : l.length = 4
    · obtain ⟨p0, p1, p2, p3, hl⟩ : ∃ p0 p1 p2 p3, l = [p0, p1, p2, p3] := by
        match l, h4 with
        | [p0, p1, p2, p3], _ => exact ⟨p0, p1, p2, p3, rfl⟩
      subst hl
      have g2 : (([p0, p1, p2, p3].length : Int) == 4) = true := rfl
      have k0 := str_cell H.out.2.2.1 (j := 0) (x := p0) rfl
      have k1 := str_cell H.out.2.2.1 (j := 1) (x := p1) rfl
      have k2 := str_cell H.out.2.2.1 (j := 2) (x := p2) rfl
      have k3 := str_cell H.out.2.2.1 (j := 3) (x := p3) rfl
      have hgl : g < w2.heap.size := H.out.2.2.1.lt g (by simp [blockOf])
      simp only [List.length_cons, List.length_nil, Nat.reduceAdd]
      have hpa : Hid (paOf (dataL [p0, p1, p2, p3]) = none → parseL s.data.toList = (Pa.none, 31)) := Lib.hid (fun h => parseL_bad H.out.1 h)
      have hpb : paOf (dataL [p0, p1, p2, p3]) = if p0.data.toList = [48, 48] ∧ p1.data.toList.length = 32 ∧ p2.data.toList.length = 16 then
          (match hexL (p1.data.toList.take 16), hexL (p1.data.toList.drop 16), hexL p2.data.toList, hexL p3.data.toList with
          | some h, some l, some s, some f => some ⟨h, l, s, f % 256⟩
          | _, _, _, _ => Option.none) else none := rfl
      by_cases hp0 : p0.data.toList = [48, 48]
      · by_cases hp1 : p1.size = 32
        · by_cases hp2 : p2.size = 16
          · have b0 : (p0.toList == [48, 48]) = true := by rw [Lib.toList_data, hp0]; rfl
            have hp3 : p3.size ≤ 100000 := by have := H.out.2.1 p3 (by simp); omega
            rw [if_pos (by rw [len_data, len_data]; exact ⟨hp0, hp1, hp2⟩)] at hpb
            clear hp0
            have Hpb := Lib.hid hpb
            clear hpb
            go_wp2_with fail
            go_quiet (fail)
            go_wp2_with fail
            have eA : (p1.extract 0 16).data.toList = p1.data.toList.take 16 := by rw [Lib.extract_data]; simp
            have eB : (p1.extract 16 32).data.toList = p1.data.toList.drop 16 := by
              rw [Lib.extract_data]
              exact List.take_of_length_le (by rw [List.length_drop, len_data]; omega)
            have sA : (p1.extract 0 16).size ≤ 100000 := by simp; omega
            have sB : (p1.extract 16 32).size ≤ 100000 := by simp; omega
            generalize p1.extract 0 16 = PA at *
            generalize p1.extract 16 32 = PB at *
            have hn0 := heap_alloc_new w2 (.cells #[.int .u64 0, .int .u64 0, .int .u64 0, .int .u64 0] 63)
            have hbn : b ≠ w2.heap.size := by omega
            have Hpb : Hid (paOf (dataL [p0, p1, p2, p3]) = hexes PA.data.toList PB.data.toList p2.data.toList p3.data.toList) := Lib.hid (by rw [eA, eB]; exact Hpb.out)
            have oN : Only [] w2 ((w2.alloc (.cells #[.int .u64 0, .int .u64 0, .int .u64 0, .int .u64 0] 63)).drewN nq) := ((Only.refl _ _).alloc _).drewN _
            have hn1 : ((w2.alloc (.cells #[.int .u64 0, .int .u64 0, .int .u64 0, .int .u64 0] 63)).drewN nq).heap[w2.heap.size]? = some (.cells #[.int .u64 0, .int .u64 0, .int .u64 0, .int .u64 0] 63 (0, 0)) := hn0
            generalize (w2.alloc (.cells #[.int .u64 0, .int .u64 0, .int .u64 0, .int .u64 0] 63)).drewN nq = w4 at *
            generalize hnb : w2.heap.size = nb at *
            have Hn := Lib.hid hn1
            have ON := Lib.hid oN
            have HNb := Lib.hid hnb
            have Hbn := Lib.hid hbn
            have Hpa := Lib.hid (fun h => hbad.out (hpa.out (Hpb.out.trans h)))
            have HEA := Lib.hid (And.intro eA eB)
            have HS := Lib.hid (And.intro sA (And.intro sB (And.intro (show p2.size ≤ 100000 by omega) hp3)))
            clear eA eB hn0 hn1 oN hpa hbad hnb hbn sA sB hp3 k0 k1 k2 k3 r0 r1 r2 r3 f0 f1 f2 f3
            go_loopw [56] (fun iv wr => ∃ i : Nat, iv = .int .i64 i ∧ i ≤ 4 ∧ wr.heap[nb]? = some (.cells (nArr (hexV PA.data.toList) (hexV PB.data.toList) (hexV p2.data.toList) (hexV p3.data.toList) i) 63 (0, 0)) ∧ Only [nb] w4 wr ∧
              (0 < i → hexOk PA.data.toList = true) ∧ (1 < i → hexOk PB.data.toList = true) ∧ (2 < i → hexOk p2.data.toList = true) ∧ (3 < i → hexOk p3.data.toList = true)) (fun iv _ => 4 - (intOf iv).toNat)
            case atStart => exact ⟨0, rfl, by omega, Hn.out, Only.refl _ _, by omega, by omega, by omega, by omega⟩
            case round =>
              obtain ⟨i, rfl, hi, hN, ho, q0, q1, q2, q3⟩ := hrel
              have hB := ho.blk (ON.out.blk HB2.out (by simp)) (by simpa using Hbn.out)
              have r0 : wr.cell? ⟨b, 0, none⟩ = some (.int .u64 0) := by rw [cell_of_blk hB]; rfl
              have r1 : wr.cell? ⟨b, 1, none⟩ = some (.int .u64 0) := by rw [cell_of_blk hB]; rfl
              have r2 : wr.cell? ⟨b, 2, none⟩ = some (.int .u64 0) := by rw [cell_of_blk hB]; rfl
              have r3 : wr.cell? ⟨b, 3, none⟩ = some (.int .u8 0) := by rw [cell_of_blk hB]; rfl
              have fz : ∀ j, wr.frozen? ⟨b, j, none⟩ = false := fun j => frozen_of_blk hB
              have f0 := fz 0
              have f1 := fz 1
              have f2 := fz 2
              have f3 := fz 3
              have fy : ∀ j, wr.frozen? ⟨nb, j, none⟩ = false := fun j => frozen_of_blk hN
              have hbl2 := lt_of_blk hB
              have hnl := lt_of_blk hN
              have hOk2 : Hid (∀ W, Only [b] wr W → Only [] w W) := Lib.hid (fun W hW => hOk.out W (((ON.out.mono (by simp)).trans' (ho.mono (S' := [nb]) (by simp)) (fun x hx hlt => by
                rw [List.mem_singleton] at hx
                have := HNb.out
                omega)).trans hW))
              have HB3 := Lib.hid hB
              have HN := Lib.hid hN
              have HO := Lib.hid ho
              clear fz hB ho
              have hcase : i = 0 ∨ i = 1 ∨ i = 2 ∨ i = 3 ∨ i = 4 := by omega
              clear hi
              rcases hcase with rfl | rfl | rfl | rfl | rfl
              · have ix : ∀ w, (Instr.index 64 (.agg #[.string PA, .string PB, .string p2, .string p3]) (.int .i64 0)).run Tryd.prog w = .ok (.string PA) w := fun _ => by kernel_rfl
                have c0 := fy 0
                have d0 : wr.cell? ⟨nb, 0, none⟩ = some (.int .u64 0) := by rw [cell_of_blk HN.out]; rfl
                have CX := hex_walk PA wr (by have := HS.out; omega)
                cases hok : hexOk PA.data.toList with
                | true =>
                  rw [hok] at CX
                  have CX := Lib.hid CX
                  have Hok := Lib.hid hok
                  have HQ := Lib.hid (And.intro q0 (And.intro q1 (And.intro q2 q3)))
                  clear hok q0 q1 q2 q3 r0 r1 r2 r3 f0 f1 f2 f3
                  generalize hv : hexV PA.data.toList = v at *
                  have Hv := Lib.hid hv
                  clear hv
                  go_wp2_with (go_at_call 26; refine CX.out.mono ?_; rintro e w' ⟨rfl, rfl⟩)
                  go_roundw
                  case rel =>
                    have hs2 := setCell_blk (i := 0) (v := .int .u64 v) HN.out
                    exact ⟨1, rfl, by omega, hs2, HO.out.setCell (.inl (by simp)) _, fun _ => by first | exact trivial | exact Hok.out, fun h => absurd h (by omega), fun h => absurd h (by omega), fun h => absurd h (by omega)⟩
                  case measure => simp [intOf]
                | false =>
                  rw [hok] at CX
                  have CX := Lib.hid CX
                  have hb := Lib.hid (Hpa.out (hexes_none (by simp [hok])))
                  clear hok q0 q1 q2 q3
                  go_wp2_with (go_at_call 26; refine CX.out.mono ?_; rintro e w' ⟨rfl, rfl⟩)
                  all_goals refine bodyPost_ret (v := .tuple #[.agg #[.int .u64 0, .int .u64 0, .int .u64 0, .int .u8 0], .int .u16 31]) (by simp [results, Tryd.results12, go_sem, r0, r1, r2, r3]) rfl ?_
                  all_goals exact ⟨(hb.out w2 (Only.refl _ _)).1, hOk2.out _ (((((Only.refl _ _).setCell (.inl (by simp)) _).setCell (.inl (by simp)) _).setCell (.inl (by simp)) _).setCell (.inl (by simp)) _)⟩
              · have ix : ∀ w, (Instr.index 64 (.agg #[.string PA, .string PB, .string p2, .string p3]) (.int .i64 1)).run Tryd.prog w = .ok (.string PB) w := fun _ => by kernel_rfl
                have c0 := fy 1
                have d0 : wr.cell? ⟨nb, 1, none⟩ = some (.int .u64 0) := by rw [cell_of_blk HN.out]; rfl
                have CX := hex_walk PB wr (by have := HS.out; omega)
                cases hok : hexOk PB.data.toList with
                | true =>
                  rw [hok] at CX
                  have CX := Lib.hid CX
                  have Hok := Lib.hid hok
                  have HQ := Lib.hid (And.intro q0 (And.intro q1 (And.intro q2 q3)))
                  clear hok q0 q1 q2 q3 r0 r1 r2 r3 f0 f1 f2 f3
                  generalize hv : hexV PB.data.toList = v at *
                  have Hv := Lib.hid hv
                  clear hv
                  go_wp2_with (go_at_call 26; refine CX.out.mono ?_; rintro e w' ⟨rfl, rfl⟩)
                  go_roundw
                  case rel =>
                    have hs2 := setCell_blk (i := 1) (v := .int .u64 v) HN.out
                    exact ⟨2, rfl, by omega, hs2, HO.out.setCell (.inl (by simp)) _, fun _ => HQ.out.1 (by omega), fun _ => by first | exact trivial | exact Hok.out, fun h => absurd h (by omega), fun h => absurd h (by omega)⟩
                  case measure => simp [intOf]
                | false =>
                  rw [hok] at CX
                  have CX := Lib.hid CX
                  have hb := Lib.hid (Hpa.out (hexes_none (by simp [hok])))
                  clear hok q0 q1 q2 q3
                  go_wp2_with (go_at_call 26; refine CX.out.mono ?_; rintro e w' ⟨rfl, rfl⟩)
                  all_goals refine bodyPost_ret (v := .tuple #[.agg #[.int .u64 0, .int .u64 0, .int .u64 0, .int .u8 0], .int .u16 31]) (by simp [results, Tryd.results12, go_sem, r0, r1, r2, r3]) rfl ?_
                  all_goals exact ⟨(hb.out w2 (Only.refl _ _)).1, hOk2.out _ (((((Only.refl _ _).setCell (.inl (by simp)) _).setCell (.inl (by simp)) _).setCell (.inl (by simp)) _).setCell (.inl (by simp)) _)⟩
              · have ix : ∀ w, (Instr.index 64 (.agg #[.string PA, .string PB, .string p2, .string p3]) (.int .i64 2)).run Tryd.prog w = .ok (.string p2) w := fun _ => by kernel_rfl
                have c0 := fy 2
                have d0 : wr.cell? ⟨nb, 2, none⟩ = some (.int .u64 0) := by rw [cell_of_blk HN.out]; rfl
                have CX := hex_walk p2 wr (by have := HS.out; omega)
                cases hok : hexOk p2.data.toList with
                | true =>
                  rw [hok] at CX
                  have CX := Lib.hid CX
                  have Hok := Lib.hid hok
                  have HQ := Lib.hid (And.intro q0 (And.intro q1 (And.intro q2 q3)))
                  clear hok q0 q1 q2 q3 r0 r1 r2 r3 f0 f1 f2 f3
                  generalize hv : hexV p2.data.toList = v at *
                  have Hv := Lib.hid hv
                  clear hv
                  go_wp2_with (go_at_call 26; refine CX.out.mono ?_; rintro e w' ⟨rfl, rfl⟩)
                  go_roundw
                  case rel =>
                    have hs2 := setCell_blk (i := 2) (v := .int .u64 v) HN.out
                    exact ⟨3, rfl, by omega, hs2, HO.out.setCell (.inl (by simp)) _, fun _ => HQ.out.1 (by omega), fun _ => HQ.out.2.1 (by omega), fun _ => by first | exact trivial | exact Hok.out, fun h => absurd h (by omega)⟩
                  case measure => simp [intOf]
                | false =>
                  rw [hok] at CX
                  have CX := Lib.hid CX
                  have hb := Lib.hid (Hpa.out (hexes_none (by simp [hok])))
                  clear hok q0 q1 q2 q3
                  go_wp2_with (go_at_call 26; refine CX.out.mono ?_; rintro e w' ⟨rfl, rfl⟩)
                  all_goals refine bodyPost_ret (v := .tuple #[.agg #[.int .u64 0, .int .u64 0, .int .u64 0, .int .u8 0], .int .u16 31]) (by simp [results, Tryd.results12, go_sem, r0, r1, r2, r3]) rfl ?_
                  all_goals exact ⟨(hb.out w2 (Only.refl _ _)).1, hOk2.out _ (((((Only.refl _ _).setCell (.inl (by simp)) _).setCell (.inl (by simp)) _).setCell (.inl (by simp)) _).setCell (.inl (by simp)) _)⟩
              · have ix : ∀ w, (Instr.index 64 (.agg #[.string PA, .string PB, .string p2, .string p3]) (.int .i64 3)).run Tryd.prog w = .ok (.string p3) w := fun _ => by kernel_rfl
                have c0 := fy 3
                have d0 : wr.cell? ⟨nb, 3, none⟩ = some (.int .u64 0) := by rw [cell_of_blk HN.out]; rfl
                have CX := hex_walk p3 wr (by have := HS.out; omega)
                cases hok : hexOk p3.data.toList with
                | true =>
                  rw [hok] at CX
                  have CX := Lib.hid CX
                  have Hok := Lib.hid hok
                  have HQ := Lib.hid (And.intro q0 (And.intro q1 (And.intro q2 q3)))
                  clear hok q0 q1 q2 q3 r0 r1 r2 r3 f0 f1 f2 f3
                  generalize hv : hexV p3.data.toList = v at *
                  have Hv := Lib.hid hv
                  clear hv
                  go_wp2_with (go_at_call 26; refine CX.out.mono ?_; rintro e w' ⟨rfl, rfl⟩)
                  go_roundw
                  case rel =>
                    have hs2 := setCell_blk (i := 3) (v := .int .u64 v) HN.out
                    exact ⟨4, rfl, by omega, hs2, HO.out.setCell (.inl (by simp)) _, fun _ => HQ.out.1 (by omega), fun _ => HQ.out.2.1 (by omega), fun _ => HQ.out.2.2.1 (by omega), fun _ => by first | exact trivial | exact Hok.out⟩
                  case measure => simp [intOf]
                | false =>
                  rw [hok] at CX
                  have CX := Lib.hid CX
                  have hb := Lib.hid (Hpa.out (hexes_none (by simp [hok])))
                  clear hok q0 q1 q2 q3
                  go_wp2_with (go_at_call 26; refine CX.out.mono ?_; rintro e w' ⟨rfl, rfl⟩)
                  all_goals refine bodyPost_ret (v := .tuple #[.agg #[.int .u64 0, .int .u64 0, .int .u64 0, .int .u8 0], .int .u16 31]) (by simp [results, Tryd.results12, go_sem, r0, r1, r2, r3]) rfl ?_
                  all_goals exact ⟨(hb.out w2 (Only.refl _ _)).1, hOk2.out _ (((((Only.refl _ _).setCell (.inl (by simp)) _).setCell (.inl (by simp)) _).setCell (.inl (by simp)) _).setCell (.inl (by simp)) _)⟩
              · have hgood := parseL_good hsz H.out.1 (Hpb.out.trans (hexes_some (q0 (by omega)) (q1 (by omega)) (q2 (by omega)) (q3 (by omega))))
                have n0 : wr.cell? ⟨nb, 0, none⟩ = some (.int .u64 (hexV PA.data.toList)) := by rw [cell_of_blk HN.out]; rfl
                have n1 : wr.cell? ⟨nb, 1, none⟩ = some (.int .u64 (hexV PB.data.toList)) := by rw [cell_of_blk HN.out]; rfl
                have n2 : wr.cell? ⟨nb, 2, none⟩ = some (.int .u64 (hexV p2.data.toList)) := by rw [cell_of_blk HN.out]; rfl
                have n3 : wr.cell? ⟨nb, 3, none⟩ = some (.int .u64 (hexV p3.data.toList)) := by rw [cell_of_blk HN.out]; rfl
                have hA := hexV_lt PA.data.toList
                have hB := hexV_lt PB.data.toList
                have hC := hexV_lt p2.data.toList
                have hD := hexV_lt p3.data.toList
                clear q0 q1 q2 q3 HN
                generalize hexV PA.data.toList = va at *
                generalize hexV PB.data.toList = vb at *
                generalize hexV p2.data.toList = vc at *
                generalize hexV p3.data.toList = vd at *
                have hor := or_nat hA hB
                have hw8 := wrap8 vd
                simp only at hgood
                by_cases hz : (va = 0 ∧ vb = 0) ∨ vc = 0
                · rw [if_pos hz] at hgood
                  have Hg := Lib.hid hgood
                  clear hgood
                  by_cases hz1 : va ||| vb = 0
                  · rw [hz1] at hor
                    simp only [Int.natCast_zero] at hor
                    have Hz := Lib.hid hz
                    clear hz hz1
                    go_wp2_with fail
                    all_goals refine bodyPost_ret (v := .tuple #[.agg #[.int .u64 0, .int .u64 0, .int .u64 0, .int .u8 0], .int .u16 1]) (by simp [results, Tryd.results12, go_sem, r0, r1, r2, r3]) rfl ?_
                    all_goals exact ⟨by rw [Hg.out]; rfl, hOk2.out _ (((((Only.refl _ _).setCell (.inl (by simp)) _).setCell (.inl (by simp)) _).setCell (.inl (by simp)) _).setCell (.inl (by simp)) _)⟩
                  · have hzc : vc = 0 := hz.elim (fun h => absurd (or_eq_zero.2 h) hz1) id
                    subst hzc
                    have ho : (((va ||| vb : Nat) : Int) == 0) = false := by rw [beq_eq_false_iff_ne]; omega
                    clear hz hz1
                    go_wp2_with fail
                    all_goals refine bodyPost_ret (v := .tuple #[.agg #[.int .u64 0, .int .u64 0, .int .u64 0, .int .u8 0], .int .u16 1]) (by simp [results, Tryd.results12, go_sem, r0, r1, r2, r3]) rfl ?_
                    all_goals exact ⟨by rw [Hg.out]; rfl, hOk2.out _ (((((Only.refl _ _).setCell (.inl (by simp)) _).setCell (.inl (by simp)) _).setCell (.inl (by simp)) _).setCell (.inl (by simp)) _)⟩
                · rw [if_neg hz] at hgood
                  have Hg := Lib.hid hgood
                  clear hgood
                  have hz1 : ¬ (va ||| vb = 0) := fun h => hz (.inl (or_eq_zero.1 h))
                  have hz2 : ¬ vc = 0 := fun h => hz (.inr h)
                  have ho : (((va ||| vb : Nat) : Int) == 0) = false := by rw [beq_eq_false_iff_ne]; omega
                  have ho2 : ((vc : Int) == 0) = false := by rw [beq_eq_false_iff_ne]; omega
                  clear hz
                  go_wp2_with fail
                  all_goals refine bodyPost_ret (v := .tuple #[.agg #[.int .u64 va, .int .u64 vb, .int .u64 vc, .int .u8 (vd % 256 : Nat)], .int .u16 0]) (by simp [results, Tryd.results12, go_sem, r0, r1, r2, r3]) rfl ?_
                  all_goals exact ⟨by rw [Hg.out]; rfl, hOk2.out _ (((((Only.refl _ _).setCell (.inl (by simp)) _).setCell (.inl (by simp)) _).setCell (.inl (by simp)) _).setCell (.inl (by simp)) _)⟩
          · have b0 : (p0.toList == [48, 48]) = true := by rw [Lib.toList_data, hp0]; rfl
            have g4 : ¬ ((p2.size : Int) = 16) := by omega
            rw [if_neg (by rw [len_data, len_data]; exact fun h => hp2 h.2.2)] at hpb
            have hb := Lib.hid (hbad.out (hpa.out hpb))
            clear hbad hpa hpb hp0
            go_wp2_with fail
            all_goals refine bodyPost_ret (v := .tuple #[.agg #[.int .u64 0, .int .u64 0, .int .u64 0, .int .u8 0], .int .u16 31]) (by simp [results, Tryd.results12, go_sem, r0, r1, r2, r3]) rfl ?_
            all_goals exact hb.out _ (((((Only.refl _ _).setCell (.inl (by simp)) _).setCell (.inl (by simp)) _).setCell (.inl (by simp)) _).setCell (.inl (by simp)) _)
        · have b0 : (p0.toList == [48, 48]) = true := by rw [Lib.toList_data, hp0]; rfl
          have g4 : ¬ ((p1.size : Int) = 32) := by omega
          rw [if_neg (by rw [len_data, len_data]; exact fun h => hp1 h.2.1)] at hpb
          have hb := Lib.hid (hbad.out (hpa.out hpb))
          clear hbad hpa hpb hp0
          go_wp2_with fail
          all_goals refine bodyPost_ret (v := .tuple #[.agg #[.int .u64 0, .int .u64 0, .int .u64 0, .int .u8 0], .int .u16 31]) (by simp [results, Tryd.results12, go_sem, r0, r1, r2, r3]) rfl ?_
          all_goals exact hb.out _ (((((Only.refl _ _).setCell (.inl (by simp)) _).setCell (.inl (by simp)) _).setCell (.inl (by simp)) _).setCell (.inl (by simp)) _)
      · have b0 : (p0.toList == [48, 48]) = false := by rw [Lib.toList_data, beq_eq_false_iff_ne]; exact hp0
        rw [if_neg (fun h => hp0 h.1)] at hpb
        have hb := Lib.hid (hbad.out (hpa.out hpb))
        clear hbad hpa hpb hp0
        go_wp2_with fail
        all_goals refine bodyPost_ret (v := .tuple #[.agg #[.int .u64 0, .int .u64 0, .int .u64 0, .int .u8 0], .int .u16 31]) (by simp [results, Tryd.results12, go_sem, r0, r1, r2, r3]) rfl ?_
        all_goals exact hb.out _ (((((Only.refl _ _).setCell (.inl (by simp)) _).setCell (.inl (by simp)) _).setCell (.inl (by simp)) _).setCell (.inl (by simp)) _)
    · have g2 : ((l.length : Int) == 4) = false := by rw [beq_eq_false_iff_ne]; omega
      have g3 : ((l.length : Int) != 4) = true := by rw [bne_iff_ne]; omega
      have g4 : ¬ ((l.length : Int) = 4) := by omega
      have hb := Lib.hid (hbad.out (parseL_bad H.out.1 (paOf_many (by unfold dataL; rw [List.length_map]; exact h4))))
      clear hbad hsz
      go_wp2_with fail
      all_goals refine bodyPost_ret (v := .tuple #[.agg #[.int .u64 0, .int .u64 0, .int .u64 0, .int .u8 0], .int .u16 31]) (by simp [results, Tryd.results12, go_sem, r0, r1, r2, r3]) rfl ?_
      all_goals exact hb.out _ (((((Only.refl _ _).setCell (.inl (by simp)) _).setCell (.inl (by simp)) _).setCell (.inl (by simp)) _).setCell (.inl (by simp)) _)
  · have g1 : ((s.size : Int) == 55) = false := by rw [beq_eq_false_iff_ne]; omega
    have g3 : ((s.size : Int) != 55) = true := by rw [bne_iff_ne]; omega
    have g4 : ¬ ((s.size : Int) = 55) := by omega
    have hb := Lib.hid (hbad.out (parseL_size hsz))
    clear hbad
    go_wp2_with fail
    all_goals refine bodyPost_ret (v := .tuple #[.agg #[.int .u64 0, .int .u64 0, .int .u64 0, .int .u8 0], .int .u16 31]) (by simp [results, Tryd.results12, go_sem, r0, r1, r2, r3]) rfl ?_
    all_goals exact hb.out _ (((((Only.refl _ _).setCell (.inl (by simp)) _).setCell (.inl (by simp)) _).setCell (.inl (by simp)) _).setCell (.inl (by simp)) _)

end Go.Proofs.YtfnbkcdcdeojfaaDoor
