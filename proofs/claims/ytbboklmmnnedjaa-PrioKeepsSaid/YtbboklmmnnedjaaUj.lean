/- A sampler beside what others hold; the document's Same, walked. -/
import Derived.Test.YtbboklmmnnedjaaUi
import Derived.Test.YtbboklmmnnedjaaQg
set_option linter.unusedVariables false
set_option linter.unusedSimpArgs false
namespace Go.Proofs.Ytbboklmmnnedjaa
open Go.RowKit Go.Mk Go.Pr

/-- A sampler, apart from the blocks of F. -/
structure SmpF (F : Nat → Prop) (w : World) (hp keep draws many : Nat) (S : List Of) : Prop where
  ex : ∃ sv, SamplerAt w hp keep draws many S sv ∧ ∀ b, F b → b ≠ hp ∧ b ∉ blockOf sv

theorem SmpF.shift {F : Nat → Prop} {w w' : World} {hp keep draws many : Nat} {S : List Of} (h : SmpF F w hp keep draws many S) (ho : Only [] w w') : SmpF F w' hp keep draws many S := by
  obtain ⟨sv, hs, hb⟩ := h.ex
  obtain ⟨L, hL, hH, hP⟩ := hs.body
  exact ⟨sv, ⟨⟨L, hL.only ho (by simp) (by simp), hH, hP⟩, hs.sorted, hs.room, hs.places, hs.keep1, hs.keep2, hs.draws64, hs.short⟩, hb⟩
/-- A store into a block of F. -/
theorem SmpF.apart {F : Nat → Prop} {T : List Nat} {w w' : World} {hp keep draws many : Nat} {S : List Of} (h : SmpF F w hp keep draws many S) (ho : Only T w w') (hT : ∀ b ∈ T, F b) : SmpF F w' hp keep draws many S := by
  obtain ⟨sv, hs, hb⟩ := h.ex
  obtain ⟨L, hL, hH, hP⟩ := hs.body
  exact ⟨sv, ⟨⟨L, hL.only ho (fun hm => (hb _ (hT _ hm)).1 rfl) (fun b hx hm => (hb _ (hT _ hm)).2 hx), hH, hP⟩, hs.sorted, hs.room, hs.places, hs.keep1, hs.keep2, hs.draws64, hs.short⟩, hb⟩
theorem SmpF.more {F G : Nat → Prop} {w : World} {hp keep draws many : Nat} {S : List Of} (h : SmpF F w hp keep draws many S) (hG : ∀ b, G b → F b ∨ w.heap.size ≤ b) : SmpF G w hp keep draws many S := by
  obtain ⟨sv, hs, hb⟩ := h.ex
  obtain ⟨L, hL, hH, hP⟩ := hs.body
  have h1 := lt_of_blk hL.blk
  refine ⟨sv, hs, fun b hx => ?_⟩
  rcases hG b hx with h2 | h2
  · exact hb b h2
  · refine ⟨by omega, fun hm => ?_⟩
    have := hL.sl.lt b hm
    omega
theorem SmpF.lt {F : Nat → Prop} {w : World} {hp keep draws many : Nat} {S : List Of} (h : SmpF F w hp keep draws many S) : hp < w.heap.size := by
  obtain ⟨sv, hs, hb⟩ := h.ex
  obtain ⟨L, hL, hH, hP⟩ := hs.body
  exact lt_of_blk hL.blk

theorem smpf_new {w : World} (keep draws : Nat) (h1 : 1 ≤ keep) (h2 : keep ≤ 1000) (h3 : draws < 18446744073709551616) :
    Calls Try.prog 10 #[.int .i64 keep, .int .u64 draws] w fun e w' => e = .returned (.pointer (some ⟨w.heap.size, 0, none⟩)) ∧ SmpF (fun b => b < w.heap.size) w' w.heap.size keep draws 0 [] ∧ Only [] w w' :=
  (sampler_new keep draws h1 h2 h3).mono fun e w' ⟨he, hs, ho, _⟩ => ⟨he, ⟨_, hs, fun b hb => ⟨by omega, by simp [blockOf]⟩⟩, ho⟩

theorem smpf_add {F : Nat → Prop} {w : World} {hp keep draws many : Nat} {S : List Of} (h : SmpF F w hp keep draws many S) (hF : ∀ b, F b → b < w.heap.size) (weight draw : Nat) (hw1 : 1 ≤ weight) (hw2 : weight ≤ 4294967296) (hd : draw < 18446744073709551616) (hmany : many < 5000) :
    Calls Try.prog 11 #[.pointer (some ⟨hp, 0, none⟩), .int .u64 weight, .int .u64 draw] w fun e w' =>
      e = .returned (.tuple #[.int .i64 many, .int .u16 0]) ∧ SmpF F w' hp keep draws (many + 1) (addS keep S ⟨weight, drawn draws draw, many⟩) ∧ ∃ T, (∀ b ∈ T, ¬ F b) ∧ Only T w w' := by
  obtain ⟨sv, hs, hb⟩ := h.ex
  refine (sampler_add hs weight draw hw1 hw2 hd hmany).mono ?_
  rintro e w' ⟨he, sv', hs', ho, hb'⟩
  refine ⟨he, ⟨sv', hs', fun b hx => ⟨(hb b hx).1, fun hm => ?_⟩⟩, hp :: blockOf sv, fun b hm hx => ?_, ho⟩
  · rcases hb' b hm with h2 | h2
    · exact (hb b hx).2 h2
    · have := hF b hx; omega
  · rcases List.mem_cons.1 hm with h2 | h2
    · exact (hb b hx).1 h2
    · exact (hb b hx).2 h2

theorem smpf_len {F : Nat → Prop} {w : World} {hp keep draws many : Nat} {S : List Of} (h : SmpF F w hp keep draws many S) :
    Calls Try.prog 14 #[.pointer (some ⟨hp, 0, none⟩)] w fun e w' => e = .returned (.int .i64 many) ∧ w' = w := by
  obtain ⟨sv, hs, hb⟩ := h.ex
  exact sampler_len hs

theorem smpf_close {F : Nat → Prop} {w : World} {hp keep draws many : Nat} {S : List Of} (h : SmpF F w hp keep draws many S) :
    Calls Try.prog 12 #[.pointer (some ⟨hp, 0, none⟩)] w fun e w' => ∃ M rv, e = .returned rv ∧ SliceIs w' 33 3 (M.map encK) rv ∧ List.Perm M (closeS keep draws S) ∧ M.Pairwise (fun a b => a.p ≤ b.p) ∧
      SmpF F w' hp keep draws 0 [] ∧ (∃ T, (∀ b ∈ T, ¬ F b) ∧ Only T w w') ∧ (∀ b ∈ blockOf rv, w.heap.size ≤ b) := by
  obtain ⟨sv, hs, hb⟩ := h.ex
  have hk := hs.keep1
  have hro := hs.room
  by_cases hf : S.length ≤ keep
  · refine (close_few hs hf).mono ?_
    rintro e w' ⟨M, rv, he, hM, hp', hpw, hs', ho, hrv⟩
    refine ⟨M, rv, he, hM, ?_, hpw, ⟨_, hs', fun b hx => ⟨(hb b hx).1, by simp [blockOf]⟩⟩, ⟨[hp], fun b hm hx => (hb b hx).1 (by simpa using hm), ho⟩, hrv⟩
    cases S with
    | nil => exact hp'
    | cons b S =>
      rw [closeS, if_pos (by simp at hf; omega)]
      exact hp'
  · cases S with
    | nil => simp at hf
    | cons b S =>
      have hf2 : S.length = keep := by simp at hf hro; omega
      refine (close_full hs hf2).mono ?_
      rintro e w' ⟨M, rv, he, hM, hp', hpw, hs', ho, hrv⟩
      refine ⟨M, rv, he, hM, ?_, hpw, ⟨_, hs', fun b hx => ⟨(hb b hx).1, by simp [blockOf]⟩⟩, ⟨hp :: blockOf sv, fun b hm hx => ?_, ho⟩, hrv⟩
      · rw [closeS, if_neg (by omega)]
        exact hp'
      · rcases List.mem_cons.1 hm with h2 | h2
        · exact (hb b hx).1 h2
        · exact (hb b hx).2 h2

set_option maxRecDepth 100000 in
set_option maxHeartbeats 2000000 in
/-- Same of two rows that are alike. -/
theorem same_walk {w : World} (M : List Kt) (q1 q2 : Option Addr) (c1 c2 : Nat) (h1 : SliceIs w 33 3 (M.map encK) (.slice q1 M.length c1)) (h2 : SliceIs w 33 3 (M.map encK) (.slice q2 M.length c2)) (hl : M.length ≤ 100000) :
    Calls Try.prog 28 #[.slice q1 M.length c1, .slice q2 M.length c2] w fun e w' => e = .returned (.bool true) ∧ Only [] w w' := by
  have hg := guard_kept
  have he := neq_kept
  have H := Lib.hid (And.intro h1 h2)
  have tn : ((M.length : Int) != (M.length : Int)) = false := by simp
  clear h1 h2
  go_enter Try.func28, Try.ntmps28
  go_wp2_with fail
  go_loopw [5] (fun iv wr => ∃ i : Nat, iv = .int .i64 i ∧ i ≤ M.length ∧ Only [] w wr) (fun iv _ => M.length - (intOf iv).toNat)
  case atStart => exact ⟨0, rfl, Nat.zero_le _, Only.refl _ _⟩
  case round =>
    obtain ⟨i, rfl, hi, ow⟩ := hrel
    have Ow := Lib.hid ow
    by_cases hil : i < M.length
    · obtain ⟨x, hx⟩ : ∃ x, M[i]? = some x := ⟨_, List.getElem?_eq_getElem hil⟩
      obtain ⟨g1, off1, rfl, hg1, k0, k1, k2⟩ := kept_at H.out.1 ow (by simp) hx
      obtain ⟨g2, off2, rfl, hg2, l0, l1, l2⟩ := kept_at H.out.2 ow (by simp) hx
      clear ow hx
      go_wp2_with fail
      go_quiet (fail)
      go_wp2_with fail
      go_roundw
      case rel => exact ⟨i + 1, by go_num, by omega, Ow.out.drewN _⟩
      case measure => simp [intOf]; omega
    · have hie : i = M.length := by omega
      subst hie
      clear ow
      go_wp2_with fail
      go_ret
      exact ⟨rfl, Ow.out⟩

end Go.Proofs.Ytbboklmmnnedjaa
