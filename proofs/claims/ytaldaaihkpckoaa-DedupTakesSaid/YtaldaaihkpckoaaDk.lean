/- The document's answer for the numbers that came, called: contracts of the reference functions. -/
import Derived.Test.YtaldaaihkpckoaaDj
namespace Go.Proofs.Ytaldaaihkpckoaa
open Go.RowKit Go.Mk Go.Dd Go.Proofs.Ytaldaaihkpckoaa.PDedupTakes Go.Proofs.YtaldaaihkpckoaaW.PrintWords Go.Proofs.YtaldaaihkpckoaaW.PrintLast Go.Proofs.YtaldaaihkpckoaaW.PrintMore
set_option linter.unusedVariables false

/-- The value v is the reference's row: the numbers L, in a block made since w0. -/
def RefD (w0 w : World) (v : Value) (L : List Int) : Prop :=
  Below w0.heap.size w0 w ∧ Kd.R (Kd.int .i64) 3 w w0.heap.size (fun k => some k = v.ownBlock) v L

theorem RefD.only {w0 w w' : World} {v : Value} {L : List Int} {F : List Nat} (h : RefD w0 w v L) (ho : Only F w w') (hn : ∀ k, v.ownBlock = some k → k ∉ F) (hF : ∀ k ∈ F, w0.heap.size ≤ k) : RefD w0 w' v L :=
  ⟨h.1.trans (ho.below h.1.size hF), Kd.R_step h.2 (fun k hk hlt => ho.block k hlt (hn k hk.symm))⟩
theorem RefD.keep {w0 w w' : World} {v : Value} {L : List Int} (h : RefD w0 w v L) (hb : Below w0.heap.size w0 w') (hk : ∀ k, v.ownBlock = some k → w'.heap[k]? = w.heap[k]?) : RefD w0 w' v L :=
  ⟨hb, Kd.R_step h.2 (fun k hk' _ => hk k hk'.symm)⟩
theorem RefD.lt {w0 w : World} {v : Value} {L : List Int} (h : RefD w0 w v L) : ∀ k, v.ownBlock = some k → k < w.heap.size := Kd.R_lt h.2
theorem RefD.base {w0 w : World} {v : Value} {L : List Int} (h : RefD w0 w v L) : ∀ k, v.ownBlock = some k → w0.heap.size ≤ k := Kd.R_base h.2
theorem RefD.slice {w0 w : World} {v : Value} {L : List Int} (h : RefD w0 w v L) : ∃ p c, v = .slice p L.length c := Kd.R_slice h.2
theorem only_of_kept {w0 w w' : World} {v : Value} (h : Below w0.heap.size w0 w) (h' : Below w0.heap.size w0 w') (hk : Kept w w' (fun k => some k = v.ownBlock)) : Only v.ownBlock.toList w w' :=
  ⟨h'.os.trans h.os.symm, h'.tape.trans h.tape.symm, h'.output.trans h.output.symm, hk.1, fun k hlt hn => hk.2 k hlt (fun e => hn (by rw [← e]; simp))⟩
theorem RefD.of {w0 w' : World} {v0 : Value} {L : List Int} {P : Nat → Prop} (hb : Below w0.heap.size w0 w') (h : Kd.R (Kd.int .i64) 3 w' w0.heap.size P v0 L) : RefD w0 w' v0 L :=
  ⟨hb, Kd.R_mono (Kd.R_tight2 rfl h) (fun k hk => hk.1)⟩

theorem ref_New (m : Nat) (hm : m ≤ 1000) (w : World) :
    Calls Try.prog 13 #[.int .i64 m] w fun e w' => ∃ v0, e = .returned (.tuple #[.agg #[v0, .int .i64 m], .bool true]) ∧ RefD w w' v0 [] ∧ Only [] w w' := by
  refine (telemeterref18_New.calls m [] m true w (by unfold telemeterref18_New.f; rw [if_pos (by omega), decide_eq_true (by omega)])).mono ?_
  rintro e w' ⟨v0, he, hr, hb⟩
  exact ⟨v0, he, RefD.of hb hr, Only.ofBelow hb (Nat.le_refl _) _⟩

theorem ref_Take {w0 w : World} {v : Value} {n n' : Nat} {A A' : List Int} {most : Nat} {x : Int} (h : RefD w0 w v (RL n A)) (hok : Ok n A most) (hL : n + A.length ≤ 1000) (hn : NextS n A most x n' A') :
    Calls Try.prog 14 #[.agg #[v, .int .i64 most], .int .i64 x] w fun e w' => ∃ v0, e = .returned (.tuple #[.agg #[v0, .int .i64 most], .int .u8 (told n A most x)]) ∧
      RefD w0 w' v0 (RL n' A') ∧ Only v.ownBlock.toList w w' ∧ (∀ k, v0.ownBlock = some k → v.ownBlock = some k ∨ w.heap.size ≤ k) := by
  have hf := take_f x hok hL (k := 6000) (Nat.le_refl _)
  rw [take_next hok hn] at hf
  refine (telemeterref18_Take.calls 6000 _ v (RL n A) most x _ _ _ w0 w h.1 h.2 hf).mono ?_
  rintro e w' ⟨v0, he, hr, hb, hk⟩
  exact ⟨v0, he, RefD.of hb hr, only_of_kept h.1 hb hk, fun k hk2 => (hr.1 k hk2).imp Eq.symm id⟩

theorem ref_Low {w0 w : World} {v : Value} {n : Nat} {A : List Int} {most : Nat} (h : RefD w0 w v (RL n A)) (hok : Ok n A most) (hL : n + A.length ≤ 1000) (m : Int) :
    Calls Try.prog 15 #[.agg #[v, .int .i64 m]] w fun e w' => e = .returned (.int .i64 n) ∧ Only [] w w' := by
  obtain ⟨p, c, rfl, hc, hC⟩ := Kd.R_reads h.2
  refine (telemeterref18_Low.calls 6000 p c (RL n A) m n w hC hc (low_f m hok (by omega) (by omega))).mono ?_
  rintro e w' ⟨he, hb⟩
  exact ⟨he, Only.ofBelow hb (Nat.le_refl _) _⟩

theorem ref_Ahead {w0 w : World} {v : Value} {n : Nat} {A : List Int} {most : Nat} (h : RefD w0 w v (RL n A)) (hok : Ok n A most) (hL : n + A.length ≤ 1000) (m : Int) :
    Calls Try.prog 17 #[.agg #[v, .int .i64 m]] w fun e w' => ∃ p c, e = .returned (.slice p A.length c) ∧ A.length ≤ c ∧ Kd.C (Kd.int .i64) w' p A.length A ∧ Only [] w w' := by
  obtain ⟨p, c, rfl, hc, hC⟩ := Kd.R_reads h.2
  refine (telemeterref18_Ahead.calls 6000 p c (RL n A) m A w hC hc (ahead_f m hok (by omega) (by omega))).mono ?_
  rintro e w' ⟨v0, he, hr, hb⟩
  obtain ⟨p2, c2, rfl, hc2, hC2⟩ := Kd.R_reads hr
  exact ⟨p2, c2, he, hc2, hC2, Only.ofBelow hb (Nat.le_refl _) _⟩

theorem C_of_ints {w : World} {A : List Int} {p : Option Addr} {c : Nat} (h : IntsAre w A (.slice p A.length c)) : A.length ≤ c ∧ Kd.C (Kd.int .i64) w p A.length A := by
  rcases h.ints with ⟨h0, h1⟩ | ⟨g, off, cap, h1, hr⟩
  · subst h0
    cases h1
    exact ⟨Nat.le_refl _, Kd.C_nil _ _⟩
  · cases h1
    have hf := hr.fits
    rw [List.length_map] at hf
    refine ⟨hf, rfl, by have := hr.top; unfold maxLen at this; omega, fun _ => ⟨_, rfl, fun j x hx => ⟨[.int .i64 x], rfl, rfl, fun i u hu => ?_⟩⟩⟩
    cases i with
    | zero =>
      cases hu
      have hc := hr.int hx
      have e2 : (⟨g, off, none⟩ : Addr).add (j * (Kd.int .i64).sz + 0) = ⟨g, off + j, none⟩ := by
        rw [show (Kd.int .i64).sz = 1 from rfl]; unfold Addr.add; split <;> simp_all
      rw [e2]
      exact hc
    | succ i => simp at hu

theorem dd_same {w : World} {A : List Int} {p q : Option Addr} {c d : Nat} (h : IntsAre w A (.slice p A.length c)) (hd : A.length ≤ d) (hq : Kd.C (Kd.int .i64) w q A.length A) (hl : A.length ≤ 1000) :
    Calls Try.prog 16 #[.slice p A.length c, .slice q A.length d] w fun e w' => e = .returned (.bool true) ∧ Only [] w w' := by
  obtain ⟨h1, h2⟩ := C_of_ints h
  refine (telemeterlaw18_same.calls 6000 p c A q d A true w h2 h1 hq hd (same_f A (by omega) (by omega))).mono ?_
  rintro e w' ⟨he, hb⟩
  obtain ⟨n, rfl⟩ := hb.out
  exact ⟨he, (Only.refl _ _).drewN _⟩

theorem C_only {w w' : World} {A : List Int} {q : Option Addr} (h : Kd.C (Kd.int .i64) w q A.length A) (ho : Only [] w w') : Kd.C (Kd.int .i64) w' q A.length A := by
  refine ⟨h.1, h.2.1, fun h0 => ?_⟩
  obtain ⟨ad, he, hc⟩ := h.2.2 h0
  refine ⟨ad, he, fun j x hx => ?_⟩
  obtain ⟨cs, h1, h2, h3⟩ := hc j x hx
  exact ⟨cs, h1, h2, fun i u hu => ho.cell (h3 i u hu) (by simp)⟩

/-- What Take makes is there, and is just one. -/
theorem next_ex {n : Nat} {A : List Int} {most : Nat} (h : Ok n A most) (k : Int) : ∃ (n' : Nat) (A' : List Int), NextS n A most k n' A' := by
  by_cases hc : Came n A k
  · exact ⟨n, A, next_same h (by rw [told_came hc]; decide)⟩
  · by_cases hf : (n : Int) < k ∧ most ≤ A.length
    · exact ⟨n, A, next_same h (by rw [told_full hc hf]; decide)⟩
    · by_cases hk : (n : Int) < k
      · exact ⟨n, insI k A, next_ins h hk (fun hm => hc (.inr hm)) (by omega)⟩
      · have hkn : k = n := by
          have : ¬ k < (n : Int) := fun h => hc (.inl h)
          omega
        have hr := next_run h hkn
        have h0 := hr.ok.lo0
        obtain ⟨q, hq⟩ : ∃ q : Nat, (runL ((n : Int) + 1) A).1 = q := ⟨_, (Int.toNat_of_nonneg h0).symm⟩
        rw [hq] at hr
        exact ⟨q, _, hr⟩
theorem next_uniq {lo lo1 lo2 k : Int} {A A1 A2 : List Int} {most : Nat} (h1 : NextS lo A most k lo1 A1) (h2 : NextS lo A most k lo2 A2) : lo1 = lo2 ∧ A1 = A2 := by
  by_cases ht : told lo A most k = 1
  · exact next_is h1 ht h2.ok (fun j => h2.fresh ht j)
  · obtain ⟨rfl, rfl⟩ := h1.else' ht
    obtain ⟨rfl, rfl⟩ := h2.else' ht
    exact ⟨rfl, rfl⟩
theorem own_TakeU {w0 w : World} {X : List Nat} {sp most : Nat} {lo lo2 k : Int} {A A2 : List Int} (h : Own w0 X w sp lo A most) (hb : lo + A.length ≤ 1000000) (hn : NextS lo A most k lo2 A2) :
    Calls Try.prog 9 #[.pointer (some ⟨sp, 0, none⟩), .int .i64 k] w fun e w' => e = .returned (.int .u8 (told lo A most k)) ∧
      Own w0 X w' sp lo2 A2 most ∧ ∀ x ∈ X, w'.heap[x]? = w.heap[x]? := by
  refine (own_Take h k hb rfl).mono ?_
  rintro e w' ⟨rfl, lo', A', k1, k2, k3⟩
  obtain ⟨rfl, rfl⟩ := next_uniq k1 hn
  exact ⟨rfl, k2, k3⟩

/-- Other blocks are kept apart from now on. -/
theorem Own.swap {w0 w w' : World} {X X' S : List Nat} {sp most : Nat} {lo : Int} {A : List Int} (h : Own w0 X w sp lo A most) (ho : Only S w w') (hS : ∀ b ∈ S, b ∈ X) (hS' : ∀ b ∈ S, w0.heap.size ≤ b)
    (hX : ∀ x ∈ X', x ∈ X ∨ w.heap.size ≤ x) (hX' : ∀ x ∈ X', x < w'.heap.size) : Own w0 X' w' sp lo A most := by
  obtain ⟨F, h1, h2, h3, h4⟩ := h
  refine ⟨F, h1.only ho (fun b hb hm => (h3 b hb).2 (hS b hm)), h2.trans' ho (fun x hx hlt => absurd (hS' x hx) (by omega)), fun b hb => ⟨(h3 b hb).1, fun hm => ?_⟩, hX'⟩
  rcases hX b hm with hx | hx
  · exact (h3 b hb).2 hx
  · have := h1.lts b hb; omega

end Go.Proofs.Ytaldaaihkpckoaa
