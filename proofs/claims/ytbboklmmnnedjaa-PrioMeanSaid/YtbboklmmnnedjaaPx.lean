/- Package prio: a sampler through New, Add, Len and Close, in one word; the chapter's example. -/
import Derived.Test.YtbboklmmnnedjaaPw
set_option linter.unusedVariables false
set_option linter.unusedSimpArgs false
namespace Go.Proofs.Ytbboklmmnnedjaa
open Go.RowKit Go.Mk Go.Pr

/-- What Close tells, in whatever order. -/
def closeS (keep draws : Nat) : List Of → List Kt
  | [] => []
  | b :: S => if S.length < keep then (b :: S).map lightK else S.map (countK draws b)

/-- A sampler that holds S; since w0 only its own block was changed. -/
structure Smp (w0 w : World) (hp keep draws many : Nat) (S : List Of) : Prop where
  ex : ∃ sv, SamplerAt w hp keep draws many S sv ∧ ∀ b ∈ blockOf sv, w0.heap.size ≤ b
  only : Only [hp] w0 w

theorem Smp.shift {w0 w w' : World} {hp keep draws many : Nat} {S : List Of} (h : Smp w0 w hp keep draws many S) (ho : Only [] w w') : Smp w0 w' hp keep draws many S := by
  obtain ⟨sv, hs, hb⟩ := h.ex
  obtain ⟨L, hL, hH, hP⟩ := hs.body
  exact ⟨⟨sv, ⟨⟨L, hL.only ho (by simp) (by simp), hH, hP⟩, hs.sorted, hs.room, hs.places, hs.keep1, hs.keep2, hs.draws64, hs.short⟩, hb⟩, h.only.trans' ho (by simp)⟩

theorem smp_new {w : World} (keep draws : Nat) (h1 : 1 ≤ keep) (h2 : keep ≤ 1000) (h3 : draws < 18446744073709551616) :
    Calls Try.prog 10 #[.int .i64 keep, .int .u64 draws] w fun e w' => e = .returned (.pointer (some ⟨w.heap.size, 0, none⟩)) ∧ Smp w w' w.heap.size keep draws 0 [] :=
  (sampler_new keep draws h1 h2 h3).mono fun e w' ⟨he, hs, ho, _⟩ => ⟨he, ⟨_, hs, by simp [blockOf]⟩, ho.mono (by simp)⟩

theorem smp_add {w0 w : World} {hp keep draws many : Nat} {S : List Of} (h : Smp w0 w hp keep draws many S) (weight draw : Nat) (hw1 : 1 ≤ weight) (hw2 : weight ≤ 4294967296) (hd : draw < 18446744073709551616) (hmany : many < 5000) :
    Calls Try.prog 11 #[.pointer (some ⟨hp, 0, none⟩), .int .u64 weight, .int .u64 draw] w fun e w' =>
      e = .returned (.tuple #[.int .i64 many, .int .u16 0]) ∧ Smp w0 w' hp keep draws (many + 1) (addS keep S ⟨weight, drawn draws draw, many⟩) := by
  obtain ⟨sv, hs, hb⟩ := h.ex
  refine (sampler_add hs weight draw hw1 hw2 hd hmany).mono ?_
  rintro e w' ⟨he, sv', hs', ho, hb'⟩
  have h1 := h.only.size
  refine ⟨he, ⟨sv', hs', fun b hx => ?_⟩, h.only.trans' ho (fun x hx hl => ?_)⟩
  · rcases hb' b hx with h2 | h2
    · exact hb b h2
    · omega
  · rcases List.mem_cons.1 hx with h2 | h2
    · simp [h2]
    · have := hb x h2; omega

theorem smp_len {w0 w : World} {hp keep draws many : Nat} {S : List Of} (h : Smp w0 w hp keep draws many S) :
    Calls Try.prog 14 #[.pointer (some ⟨hp, 0, none⟩)] w fun e w' => e = .returned (.int .i64 many) ∧ w' = w := by
  obtain ⟨sv, hs, hb⟩ := h.ex
  exact sampler_len hs

theorem smp_close {w0 w : World} {hp keep draws many : Nat} {S : List Of} (h : Smp w0 w hp keep draws many S) :
    Calls Try.prog 12 #[.pointer (some ⟨hp, 0, none⟩)] w fun e w' => ∃ M rv, e = .returned rv ∧ SliceIs w' 33 3 (M.map encK) rv ∧ List.Perm M (closeS keep draws S) ∧ M.Pairwise (fun a b => a.p ≤ b.p) ∧
      Smp w' w' hp keep draws 0 [] ∧ Only [hp] w0 w' ∧ (∀ b ∈ blockOf rv, w.heap.size ≤ b) := by
  obtain ⟨sv, hs, hb⟩ := h.ex
  have hk := hs.keep1
  have hro := hs.room
  by_cases hf : S.length ≤ keep
  · refine (close_few hs hf).mono ?_
    rintro e w' ⟨M, rv, he, hM, hp, hpw, hs', ho, hrv⟩
    refine ⟨M, rv, he, hM, ?_, hpw, ⟨⟨_, hs', by simp [blockOf]⟩, Only.refl _ _⟩, h.only.trans ho, hrv⟩
    cases S with
    | nil => exact hp
    | cons b S =>
      rw [closeS, if_pos (by simp at hf; omega)]
      exact hp
  · cases S with
    | nil => simp at hf
    | cons b S =>
      have hf2 : S.length = keep := by simp at hf hro; omega
      refine (close_full hs hf2).mono ?_
      rintro e w' ⟨M, rv, he, hM, hp, hpw, hs', ho, hrv⟩
      refine ⟨M, rv, he, hM, ?_, hpw, ⟨⟨_, hs', by simp [blockOf]⟩, Only.refl _ _⟩, h.only.trans' ho (fun x hx hl => ?_), hrv⟩
      · rw [closeS, if_neg (by omega)]
        exact hp
      · rcases List.mem_cons.1 hx with h2 | h2
        · simp [h2]
        · have := hb x h2; omega

set_option maxRecDepth 100000 in
set_option maxHeartbeats 2000000 in
theorem known_walk (w : World) : Calls Try.prog 13 #[] w fun e w' => e = .returned (.bool true) ∧ Only [] w w' := by
  have hC0 : Hid (∀ W, Calls Try.prog 10 #[.int .i64 0, .int .u64 2] W fun e w' => e = .returned (.pointer none) ∧ w' = W) := Lib.hid (fun W => sampler_none (w := W) 0 2 (.inl (by omega)))
  have hC1 : Hid (∀ W, Calls Try.prog 10 #[.int .i64 1001, .int .u64 2] W fun e w' => e = .returned (.pointer none) ∧ w' = W) := Lib.hid (fun W => sampler_none (w := W) 1001 2 (.inr (by omega)))
  have hC2 : Hid (∀ (p : Value) W, Calls Try.prog 11 #[p, .int .u64 0, .int .u64 1] W fun e w' => e = .returned (.tuple #[.int .i64 (-1), .int .u16 1]) ∧ w' = W) := Lib.hid (fun p W => sampler_refuse (w := W) p 0 1 (.inl rfl))
  have hC3 : Hid (∀ W, Calls Try.prog 16 #[.int .u64 1, .int .u64 0, .int .u64 1, .int .u64 1] W fun e w' => e = .returned (.bool true) ∧ Only [] W w') := Lib.hid (fun W => above_walk 1 0 1 1 W (by decide) (by decide) (by decide) (by decide))
  have hN : Hid (Calls Try.prog 10 #[.int .i64 1, .int .u64 2] w fun e w' => e = .returned (.pointer (some ⟨w.heap.size, 0, none⟩)) ∧ Smp w w' w.heap.size 1 2 0 []) := Lib.hid (smp_new (w := w) 1 2 (by omega) (by omega) (by omega))
  go_enter Try.func13, Try.ntmps13
  go_wp2_with fail
  refine hN.out.mono ?_
  rintro e w1 ⟨rfl, s1⟩
  go_wp2_with fail
  refine (hC0.out _).mono ?_
  rintro e w2 ⟨rfl, rfl⟩
  go_wp2_with fail
  refine (hC1.out _).mono ?_
  rintro e w2 ⟨rfl, rfl⟩
  go_wp2_with fail
  refine (smp_add s1 1 0 (by omega) (by omega) (by omega) (by omega)).mono ?_
  rintro e w3 ⟨rfl, s2⟩
  clear s1
  go_wp2_with fail
  refine (smp_add s2 1 1 (by omega) (by omega) (by omega) (by omega)).mono ?_
  rintro e w4 ⟨rfl, s3⟩
  clear s2
  go_wp2_with fail
  refine (hC2.out _ _).mono ?_
  rintro e w5 ⟨rfl, rfl⟩
  go_wp2_with fail
  refine (smp_len s3).mono ?_
  rintro e w5 ⟨rfl, rfl⟩
  go_wp2_with fail
  refine (smp_close s3).mono ?_
  rintro e w5 ⟨M, rv, rfl, hM, hp, hpw, s5, o5, hrv⟩
  have hS : closeS 1 2 (addS 1 (addS 1 [] ⟨1, drawn 2 0, 0⟩) ⟨1, drawn 2 1, 1⟩) = [⟨0, 1, 1⟩] := by rfl
  rw [hS, List.perm_singleton] at hp
  subst hp
  obtain ⟨g, off, cap, rfl, hr⟩ : ∃ g off cap, rv = .slice (some ⟨g, off, none⟩) 1 cap ∧ RowMem w5 33 3 ([⟨0, 1, 1⟩].map encK) g off cap := by
    generalize hxs : List.map encK [⟨0, 1, 1⟩] = xs at hM
    cases hM with
    | nil => exact absurd hxs (by simp)
    | row h => subst hxs; exact ⟨_, _, _, rfl, h⟩
  have k0 : w5.cell? ⟨g, off, none⟩ = some (.int .i64 0) := by
    have := hr.cell (i := 0) (f := 0) rfl rfl
    simpa using this
  have k1 : w5.cell? ⟨g, off + 1, none⟩ = some (.int .u64 1) := by
    have := hr.cell (i := 0) (f := 1) rfl rfl
    simpa using this
  have k2 : w5.cell? ⟨g, off + 2, none⟩ = some (.int .u64 1) := by
    have := hr.cell (i := 0) (f := 2) rfl rfl
    simpa using this
  have HE := Lib.hid (And.intro o5 s5)
  clear hM hpw s5 o5 hrv hS hr s3
  go_wp2_with fail
  refine (smp_len HE.out.2).mono ?_
  rintro e w6 ⟨rfl, rfl⟩
  go_wp2_with fail
  refine (hC3.out _).mono ?_
  rintro e w7 ⟨rfl, o7⟩
  go_wp2_with fail
  go_ret
  exact ⟨rfl, (HE.out.1.mono (by intro k hk hl; simp only [List.mem_singleton] at hk; omega)).trans o7⟩

end Go.Proofs.Ytbboklmmnnedjaa
