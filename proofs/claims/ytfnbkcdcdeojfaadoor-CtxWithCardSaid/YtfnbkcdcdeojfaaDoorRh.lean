/- The document's answer for layer 4, walked: short. -/
import Derived.Test.YtfnbkcdcdeojfaaDoorRg
set_option linter.unusedVariables false
set_option linter.unusedSimpArgs false
namespace Go.Proofs.YtfnbkcdcdeojfaaDoor
open Go.RowKit Go.Mk Go.Cx
attribute [-go_sem] Builtin.append_

theorem trim_zero (l : List UInt8) : Lib.trimRightB (l ++ [48]) 48 = Lib.trimRightB l 48 := by
  simp [Lib.trimRightB]
theorem trim_non {l : List UInt8} {c : UInt8} (h : c ≠ 48) : Lib.trimRightB (l ++ [c]) 48 = l ++ [c] := by
  simp [Lib.trimRightB, h]

theorem short_one {t : Nat} {r : List UInt8} {c : UInt8} (hr : r = []) (h : Lib.trimRightB (r ++ [c]) 48 = Lib.trimRightB (hexedL t 14) 48) : shortL t = r ++ [c] := by
  subst hr
  unfold shortL
  rw [← h]
  by_cases hc : c = 48
  · subst hc; decide
  · rw [trim_non hc]; rfl
theorem short_last {t : Nat} {r : List UInt8} {c : UInt8} (h : Lib.trimRightB (r ++ [c]) 48 = Lib.trimRightB (hexedL t 14) 48) (hc : c ≠ 48) : shortL t = r ++ [c] := by
  unfold shortL
  rw [← h, trim_non hc, if_neg (by simp)]

theorem ba_of {l : List UInt8} {s : ByteArray} (h : l = s.data.toList) : (⟨l.toArray⟩ : ByteArray) = s := by
  subst h; exact data_inj rfl
def strSize : Value → Nat
  | .string s => s.size
  | _ => 0
theorem hexed14 (t : Nat) : hexedL t 14 = hexedL (t / 16) 13 ++ [dig (t % 16)] := by rw [hexedL]

set_option maxRecDepth 100000 in
set_option maxHeartbeats 2000000 in
theorem rshort_walk (t : Nat) (w : World) (ht : t < big) :
    Calls Tryd.prog 45 #[.int .u64 t] w fun e w' => e = .returned (.string ⟨(shortL t).toArray⟩) ∧ w' = w := by
  have C := Lib.hid (rdigits_walk t 14 w ht (by omega))
  clear ht
  go_enter Tryd.func45, Tryd.ntmps45
  go_wp2_with fail
  refine C.out.mono ?_
  rintro e w' ⟨rfl, rfl⟩
  clear C
  obtain ⟨S, hS⟩ : ∃ S : ByteArray, S = ⟨(hexedL t 14).toArray⟩ := ⟨_, rfl⟩
  rw [← hS]
  have HS := Lib.hid hS
  clear hS
  go_wp2_with fail
  go_loop [3] (fun sv => ∃ (s : ByteArray) (r : List UInt8) (c : UInt8), sv = .string s ∧ s.data.toList = r ++ [c] ∧ r.length ≤ 13 ∧ Lib.trimRightB (r ++ [c]) 48 = Lib.trimRightB (hexedL t 14) 48) (fun sv => strSize sv)
  case atStart =>
    exact ⟨S, hexedL (t / 16) 13, dig (t % 16), rfl, by rw [HS.out, ← hexed14], by rw [hexedL_length]; omega, by rw [← hexed14]⟩
  case round =>
    obtain ⟨s, r, c, rfl, hs, hr, ht⟩ := hrel
    have hsz : s.size = r.length + 1 := by rw [← len_data, hs]; simp
    have HSd := Lib.hid hs
    have HT := Lib.hid ht
    by_cases h1 : r = []
    · have g1 : decide ((1 : Int) < s.size) = false := decide_eq_false (by rw [hsz, h1]; simp)
      have E := Lib.hid (show (⟨(shortL t).toArray⟩ : ByteArray) = s from ba_of ((short_one h1 HT.out).trans HSd.out.symm))
      clear hs hr ht hsz h1
      go_wp2_with fail
      go_ret
      exact ⟨by rw [E.out]; rfl, rfl⟩
    · have hrp : 0 < r.length := List.length_pos_iff.2 h1
      have g1 : decide ((1 : Int) < s.size) = true := decide_eq_true (by omega)
      have hidx : (s.size : Int) - 1 = ((r.length : Nat) : Int) := by omega
      have hlt : r.length < s.size := by omega
      have hlti : (r.length : Int) < s.size := by omega
      have hle : (r.length : Int) ≤ s.size := by omega
      have hget : s[r.length] = c := by
        have : s.data.toList[r.length]? = some c := by rw [hs]; simp
        rw [List.getElem?_eq_getElem (by rw [len_data]; exact hlt)] at this
        exact Option.some.inj this
      have hx : (s.extract 0 r.length).data.toList = r := by rw [Lib.extract_data, hs]; simp
      have HX := Lib.hid hx
      have Hsz := Lib.hid hsz
      have H1 := Lib.hid h1
      generalize hn : r.length = n at *
      have HNn := Lib.hid hn
      clear hs ht hsz hx hn h1
      by_cases hc : c = 48
      · have g2 : ((c.toNat : Int) == 48) = true := by rw [hc]; rfl
        have g3 : ((s[n].toNat : Int) == 48) = true := by rw [hget]; exact g2
        have HC := Lib.hid hc
        clear hget
        go_wp2_with fail
        obtain ⟨r', c', hr'⟩ : ∃ r' c', r = r' ++ [c'] := by
          rcases List.eq_nil_or_concat r with h | ⟨r', c', h⟩
          · exact absurd h H1.out
          · exact ⟨r', c', by simpa using h⟩
        have hln := congrArg List.length hr'
        rw [HNn.out, List.length_append, List.length_singleton] at hln
        have ht := HT.out
        rw [HC.out, trim_zero, hr'] at ht
        refine ⟨⟨_, r', c', rfl, by rw [HX.out]; exact hr', by omega, ht⟩, ?_⟩
        have h3 := Hsz.out
        show (s.extract 0 n).size < s.size
        rw [ByteArray.size_extract]
        omega
      · have g2 : ((c.toNat : Int) == 48) = false := byte_ne (b := 48) hc
        have g3 : ((s[n].toNat : Int) == 48) = false := by rw [hget]; exact g2
        have E := Lib.hid (show (⟨(shortL t).toArray⟩ : ByteArray) = s from ba_of ((short_last HT.out hc).trans HSd.out.symm))
        clear hget hc
        go_wp2_with fail
        go_ret
        exact ⟨by rw [E.out]; rfl, rfl⟩

end Go.Proofs.YtfnbkcdcdeojfaaDoor
