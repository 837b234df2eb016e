/- The document's answer for layer 4, walked: split and members. -/
import Derived.Test.YtfnbkcdcdeojfaaDoorRb
set_option linter.unusedVariables false
set_option linter.unusedSimpArgs false
namespace Go.Proofs.YtfnbkcdcdeojfaaDoor
open Go.RowKit Go.Mk Go.Cx
attribute [-go_sem] Builtin.append_

/-- A slice of texts in memory, made since w0. -/
def Texts (w0 W : World) (v : Value) (L : List ByteArray) : Prop :=
  ∃ p c, v = .slice p L.length c ∧ SliceIs W 9 1 (strs L) (.slice p L.length c) ∧ ∀ g ∈ blockOf (.slice p L.length c), w0.heap.size ≤ g
theorem Texts.only {w0 W W' : World} {v : Value} {L : List ByteArray} {S : List Nat} (h : Texts w0 W v L) (ho : Only S W W') (hn : ∀ g ∈ blockOf v, g ∉ S) : Texts w0 W' v L := by
  obtain ⟨p, c, rfl, h1, h2⟩ := h
  exact ⟨p, c, rfl, h1.only ho hn, h2⟩
theorem Texts.nil (w0 W : World) : Texts w0 W (.slice none 0 0) [] := ⟨none, 0, rfl, .nil, by simp [blockOf]⟩

def SplitInv (c : UInt8) (l : List UInt8) (L : List ByteArray) (f i : Nat) : Prop :=
  (i ≤ l.length ∧ f ≤ i ∧ dataL L ++ splitC c (l.drop f) = splitC c l ∧ ∀ j : Nat, f ≤ j → j < i → l[j]? ≠ some c) ∨ (i = l.length + 1 ∧ dataL L = splitC c l)
theorem split_count (c : UInt8) : ∀ l : List UInt8, (splitC c l).length ≤ l.length + 1
  | [] => by simp [splitC]
  | b :: l => by
    have ih := split_count c l
    unfold splitC
    split
    · simp; omega
    · split
      · simp
      · rename_i p ps hs; rw [hs] at ih; simp at ih ⊢; omega
theorem SplitInv.len {c : UInt8} {l : List UInt8} {L : List ByteArray} {f i : Nat} (h : SplitInv c l L f i) : L.length ≤ l.length + 1 := by
  have hc := split_count c l
  have hd : (dataL L).length = L.length := by unfold dataL; rw [List.length_map]
  rcases h with ⟨_, _, h, _⟩ | ⟨_, h⟩
  · have := congrArg List.length h
    rw [List.length_append, hd] at this
    omega
  · rw [← h, hd] at hc; exact hc
theorem free_part {c : UInt8} {l : List UInt8} {f i : Nat} (h : ∀ j : Nat, f ≤ j → j < i → l[j]? ≠ some c) : c ∉ (l.drop f).take (i - f) := by
  intro hm
  obtain ⟨k, hk, he⟩ := List.mem_iff_getElem.1 hm
  simp only [List.length_take, List.length_drop] at hk
  refine h (f + k) (by omega) (by omega) ?_
  rw [List.getElem_take, List.getElem_drop] at he
  rw [List.getElem?_eq_getElem (by omega), he]
theorem SplitInv.at {c : UInt8} {l : List UInt8} {L : List ByteArray} {f i : Nat} {x : ByteArray} (h : SplitInv c l L f i) (hi : i < l.length) (hc : l[i]? = some c) (hx : x.data.toList = (l.drop f).take (i - f)) : SplitInv c l (L ++ [x]) (i + 1) (i + 1) := by
  rcases h with ⟨h1, h2, h3, h4⟩ | ⟨h1, _⟩
  · refine .inl ⟨by omega, Nat.le_refl _, ?_, fun j _ _ => by omega⟩
    have e : l.drop f = (l.drop f).take (i - f) ++ c :: l.drop (i + 1) := by
      have := take_drop l f (i - f)
      rw [show f + (i - f) = i by omega, cons_drop hc] at this
      exact this
    rw [e, splitC_app (free_part h4)] at h3
    rw [← h3]
    simp [dataL, hx]
  · omega
theorem SplitInv.end {c : UInt8} {l : List UInt8} {L : List ByteArray} {f i : Nat} {x : ByteArray} (h : SplitInv c l L f i) (hi : i = l.length) (hx : x.data.toList = (l.drop f).take (i - f)) : SplitInv c l (L ++ [x]) (i + 1) (i + 1) := by
  rcases h with ⟨h1, h2, h3, h4⟩ | ⟨h1, _⟩
  · refine .inr ⟨by omega, ?_⟩
    have e : l.drop f = (l.drop f).take (i - f) := (List.take_of_length_le (by rw [List.length_drop]; omega)).symm
    have h5 := free_part h4
    rw [← e] at h5
    rw [splitC_one h5] at h3
    rw [← h3]
    simp only [dataL, List.map_append, List.map_cons, List.map_nil]
    rw [hx, ← e]
  · omega
theorem SplitInv.go {c : UInt8} {l : List UInt8} {L : List ByteArray} {f i : Nat} (h : SplitInv c l L f i) (hi : i < l.length) (hc : l[i]? ≠ some c) : SplitInv c l L f (i + 1) := by
  rcases h with ⟨h1, h2, h3, h4⟩ | ⟨h1, _⟩
  · refine .inl ⟨by omega, by omega, h3, fun j hj hj2 => if e : j = i then e ▸ hc else h4 j hj (by omega)⟩
  · omega

def TextsPost (l : List (List UInt8)) (w : World) (e : Ending) (w' : World) : Prop := ∃ v L, e = .returned v ∧ Texts w w' v L ∧ dataL L = l ∧ Only [] w w'
theorem only_fresh {w wr w9 : World} {S : List Nat} (ho : Only [] w wr) (o9 : Only S wr w9) (hS : ∀ g ∈ S, w.heap.size ≤ g) : Only [] w w9 := ho.trans' o9 (fun x hx hlt => by have := hS x hx; omega)

set_option maxRecDepth 100000 in
set_option maxHeartbeats 4000000 in
theorem rsplit_walk (s : ByteArray) (c : UInt8) (w : World) (hs : s.size ≤ 90000) :
    Calls Tryd.prog 61 #[.string s, .int .u8 c.toNat] w (TextsPost (partsC c s.data.toList) w) := by
  by_cases h0 : s.data.toList = []
  · have hie := isEmpty_data h0
    have E := Lib.hid (show partsC c s.data.toList = [] by unfold partsC; rw [if_pos h0])
    have hz : s.size = 0 := by rw [← len_data, h0]; rfl
    have hs0 : decide ((0 : Int) ≤ s.size) = true := decide_eq_true (by omega)
    clear h0 hz
    go_enter Tryd.func61, Tryd.ntmps61
    go_wp2_with fail
    go_loop [5, 7] (fun ov iv => ov = .slice none 0 0 ∧ iv = .int .i64 0) (fun _ _ => 0)
    case atStart => exact ⟨rfl, rfl⟩
    case round =>
      obtain ⟨rfl, rfl⟩ := hrel
      go_wp2_with fail
      go_ret
      exact ⟨_, [], rfl, Texts.nil _ _, E.out.symm, Only.refl _ _⟩
  · have hie := ne_isEmpty h0
    have E := Lib.hid (show partsC c s.data.toList = splitC c s.data.toList by unfold partsC; rw [if_neg h0])
    clear h0
    go_enter Tryd.func61, Tryd.ntmps61
    go_wp2_with fail
    go_loopw [5, 6, 7] (fun ov fv iv wr => ∃ (i f : Nat) (L : List ByteArray), iv = .int .i64 i ∧ fv = .int .i64 f ∧ Texts w wr ov L ∧ SplitInv c s.data.toList L f i ∧ Only [] w wr) (fun _ _ iv _ => s.size + 1 - (intOf iv).toNat)
    case atStart => exact ⟨0, 0, [], rfl, rfl, Texts.nil _ _, .inl ⟨by omega, by omega, by simp [dataL], fun j _ _ => by omega⟩, Only.refl _ _⟩
    case round =>
      obtain ⟨i, f, L, rfl, rfl, ⟨p, cp, rfl, hsl, hbk⟩, hI, ho⟩ := hrel
      have hll := hI.len
      rw [len_data] at hll
      have hib : i ≤ s.size + 1 := by rcases hI with h | h <;> (have := h.1; rw [len_data] at this; omega)
      by_cases hi : i ≤ s.size
      · have hf : f ≤ i := by
          rcases hI with h | h
          · exact h.2.1
          · have := h.1; rw [len_data] at this; omega
        have g1 : decide (i ≤ s.size) = true := decide_eq_true hi
        have x1 : (f : Int) ≤ i := by omega
        have x2 : (i : Int) ≤ s.size := by omega
        have hxd : (s.extract f i).data.toList = (s.data.toList.drop f).take (i - f) := Lib.extract_data _ _ _
        obtain ⟨gn, offn, capn, w9, hap, hsl9, o9, hgn⟩ := str_append hsl (by omega) (s.extract f i)
        have H9 := Lib.hid (And.intro hsl9 (And.intro o9 hgn))
        have HO := Lib.hid ho
        have HB := Lib.hid hbk
        have HS := Lib.hid hsl
        have HI := Lib.hid hI
        have HX := Lib.hid hxd
        clear hsl9 o9 hgn ho hbk hsl hI hxd
        by_cases he : i = s.size
        · have g2 : ((i : Int) == s.size) = true := by rw [beq_iff_eq]; omega
          have HE := Lib.hid he
          clear he
          go_wp2_with fail
          refine ⟨⟨i + 1, i + 1, L ++ [s.extract f i], by go_num, by go_num, ⟨_, _, by rw [List.length_append]; rfl, by rw [List.length_append]; exact H9.out.1, fun g hg => ?_⟩, HI.out.end (by rw [len_data]; exact HE.out) HX.out, only_fresh HO.out H9.out.2.1 HB.out⟩, by simp [intOf]; omega⟩
          simp only [blockOf, List.mem_singleton] at hg
          subst hg
          rcases H9.out.2.2 with h | h
          · exact HB.out _ h
          · exact Nat.le_trans HO.out.size h
        · have g2 : ((i : Int) == s.size) = false := by rw [beq_eq_false_iff_ne]; omega
          have hlt : i < s.size := by omega
          have hsi : s.data.toList[i]? = some s[i] := by rw [List.getElem?_eq_getElem (by simpa using hlt)]; rfl
          by_cases hd : s[i] = c
          · have e1 : ((s[i].toNat : Int) == (c.toNat : Int)) = true := by rw [hd]; simp
            have HE := Lib.hid (show s.data.toList[i]? = some c by rw [hsi, hd])
            have HL := Lib.hid hlt
            clear hd hsi he
            go_wp2_with fail
            refine ⟨⟨i + 1, i + 1, L ++ [s.extract f i], by go_num, by go_num, ⟨_, _, by rw [List.length_append]; rfl, by rw [List.length_append]; exact H9.out.1, fun g hg => ?_⟩, HI.out.at (by rw [len_data]; exact HL.out) HE.out HX.out, only_fresh HO.out H9.out.2.1 HB.out⟩, by simp [intOf]; omega⟩
            simp only [blockOf, List.mem_singleton] at hg
            subst hg
            rcases H9.out.2.2 with h | h
            · exact HB.out _ h
            · exact Nat.le_trans HO.out.size h
          · have e1 := byte_ne hd
            have HE := Lib.hid (show s.data.toList[i]? ≠ some c by rw [hsi]; exact fun e => hd (Option.some.inj e))
            have HL := Lib.hid hlt
            clear hd hsi he hap
            go_wp2_with fail
            exact ⟨⟨i + 1, f, L, by go_num, rfl, ⟨p, cp, rfl, HS.out, HB.out⟩, HI.out.go (by rw [len_data]; exact HL.out) HE.out, HO.out⟩, by simp [intOf]; omega⟩
      · have g1 : decide (i ≤ s.size) = false := decide_eq_false hi
        have hd : dataL L = splitC c s.data.toList := by
          rcases hI with h | h
          · have := h.1; rw [len_data] at this; omega
          · exact h.2
        have HD := Lib.hid hd
        have HO := Lib.hid ho
        have HB := Lib.hid hbk
        have HS := Lib.hid hsl
        clear hI hd ho hbk hsl
        go_wp2_with fail
        go_ret
        exact ⟨_, L, rfl, ⟨p, cp, rfl, HS.out, HB.out⟩, by rw [E.out, HD.out], HO.out⟩

end Go.Proofs.YtfnbkcdcdeojfaaDoor
