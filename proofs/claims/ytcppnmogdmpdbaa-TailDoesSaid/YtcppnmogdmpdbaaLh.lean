/- A buffer and the document's answer, one deed each: what both tell, whatever the time. -/
import Derived.Test.YtcppnmogdmpdbaaLg
set_option linter.unusedVariables false
set_option linter.unusedSimpArgs false
namespace Go.Proofs.Ytcppnmogdmpdbaa
open Go.RowKit Go.Mk Go.Hp
attribute [-go_sem] Builtin.append_

def refused (nw n : Int) : Prop := n < nw ∨ 1099511627776 < n
instance (nw n : Int) : Decidable (refused nw n) := inferInstanceAs (Decidable (_ ∨ _))
def offE (nw n : Int) : Int := if refused nw n then 60 else 0
def offN (nw n : Int) : Int := if refused nw n then nw else n
def offS (K : List Dec) (A : List Ab) (ms nw n : Int) (t : Tr) : Int := if refused nw n then 0 else saysA K A ms t
def offC (K : List Dec) (A : List Ab) (ms nw n cm : Int) (t : Tr) : Int := if refused nw n then cm else afterC (saysA K A ms t) A cm t
def offA (K : List Dec) (A : List Ab) (ms nw n cm wt : Int) (s : Sp) : List Ab := if refused nw n then A else afterA (saysA K A ms s.tr) A cm (n + wt) s
def dueX (A : List Ab) (nw n : Int) : List Ab := if refused nw n then [] else dueA n A
def dueR (A : List Ab) (nw n : Int) : List Ab := if refused nw n then A else restA n A

theorem offE_cases (nw n : Int) : offE nw n = 0 ∨ offE nw n = 60 := by unfold offE; split <;> simp
theorem offN_le (nw n : Int) (h : nw ≤ 1099511627776) : nw ≤ offN nw n ∧ offN nw n ≤ 1099511627776 := by unfold offN; by_cases hr : refused nw n <;> simp only [hr, if_true, if_false] <;> unfold refused at hr <;> omega
theorem offC_le (K : List Dec) (A : List Ab) (ms nw n cm : Int) (t : Tr) : cm ≤ offC K A ms nw n cm t ∧ offC K A ms nw n cm t ≤ cm + 1 := by
  unfold offC afterC cameA
  split
  · omega
  · split
    · split <;> omega
    · omega

section
variable {w0 w w' : World} {X : List Nat} {tp : Nat} {most wait cache now came : Int} {K : List Dec} {A : List Ab}

theorem kobj_Offer (h : KObj w0 X w tp most wait cache now came K A) (n : Int) (sp : Sp) (hc : came < 1000000) :
    Calls Try.prog 31 #[.pointer (some ⟨tp, 0, none⟩), .int .i64 n, .agg sp.arr] w fun e w' => e = .returned (.tuple #[.int .u8 (offS K A most now n sp.tr), .int .u16 (offE now n)]) ∧
      KObj w0 X w' tp most wait cache (offN now n) (offC K A most now n came sp.tr) K (offA K A most now n came wait sp) ∧ ∀ x ∈ X, w'.heap[x]? = w.heap[x]? := by
  unfold offS offE offN offC offA
  by_cases hr : refused now n
  · simp only [if_pos hr]
    exact kobj_Offer_not h n sp hr
  · simp only [if_neg hr]
    have h1 : now ≤ n ∧ n ≤ 1099511627776 := by unfold refused at hr; omega
    cases ha : asc K sp.tr with
    | some kp =>
      obtain ⟨q1, q2, q3⟩ := says_known (A := A) (most := most) (cm := came) (due := n + wait) ha
      rw [q2, q3, q1]
      exact kobj_known h n sp h1.1 h1.2 kp ha
    | none =>
      by_cases hf : most ≤ (spansA A : Int)
      · obtain ⟨q1, q2, q3⟩ := says_full (cm := came) (due := n + wait) ha hf
        rw [q2, q3, q1]
        exact kobj_full h n sp h1.1 h1.2 ha hf
      · obtain ⟨q1, q2, q3⟩ := says_take (cm := came) (due := n + wait) ha hf
        rw [q2, q3, q1]
        exact kobj_take h n sp h1.1 h1.2 ha (by omega) hc

theorem kobj_DueX (h : KObj w0 X w tp most wait cache now came K A) (n : Int) :
    Calls Try.prog 32 #[.pointer (some ⟨tp, 0, none⟩), .int .i64 n] w fun e w' => ∃ (p : Option Addr) (c : Nat) (Y : List (Ab × Value)), e = .returned (.tuple #[.slice p (dueX A now n).length c, .int .u16 (offE now n)]) ∧
      SliceIs w' 71 3 (Y.map encG) (.slice p (dueX A now n).length c) ∧ (∀ y ∈ Y, SliceIs w' 65 10 (y.1.sps.map Sp.cells) y.2) ∧ Y.map (·.1) = dueX A now n ∧
      KObj w0 X w' tp most wait cache (offN now n) came K (dueR A now n) ∧ ∀ x ∈ X, w'.heap[x]? = w.heap[x]? := by
  unfold offE offN dueX dueR
  by_cases hr : refused now n
  · simp only [if_pos hr]
    refine (kobj_Due_not h n hr).mono ?_
    rintro e w' ⟨rfl, rfl⟩
    exact ⟨none, 0, [], rfl, .nil, by simp, rfl, h, fun _ _ => rfl⟩
  · simp only [if_neg hr]
    have h1 : now ≤ n ∧ n ≤ 1099511627776 := by unfold refused at hr; omega
    refine (kobj_Due h n h1.1 h1.2).mono ?_
    rintro e w' ⟨p, c, G, rfl, g, k, hx⟩
    refine ⟨p, c, G.map (fun q => (q.ab, q.sv)), rfl, ?_, ?_, ?_, k, hx⟩
    · rw [List.map_map]; exact g.sl
    · intro y hy
      obtain ⟨q, hq, rfl⟩ := List.mem_map.1 hy
      exact g.sp q hq
    · rw [List.map_map]; exact g.ab
end

section
variable {w : World} {lp kp : Option Addr} {lc kc : Nat} {P : List (Ab × Value)} {K : List Dec}

theorem ref13_OfferX (h : RefB w (.slice lp P.length lc) (.slice kp K.length kc) P K) (hK : K.length ≤ 5000) (hP : P.length ≤ 5000) (hs : spansA (P.map (·.1)) ≤ 5000) (ms wt ch nw cm n : Int) (sp : Sp) (hn0 : 0 ≤ nw) (hw1 : 1 ≤ wt) (hw2 : wt ≤ 1099511627776) (hc1 : 0 ≤ cm) (hc2 : cm < 1000000) :
    Calls Try.prog 55 #[.agg #[.int .i64 ms, .int .i64 wt, .int .i64 ch, .int .i64 nw, .int .i64 cm, .slice lp P.length lc, .slice kp K.length kc], .int .i64 n, .agg sp.arr] w fun e w' => ∃ (lp' : Option Addr) (lc' : Nat) (P' : List (Ab × Value)), e = .returned (.tuple #[.agg #[.int .i64 ms, .int .i64 wt, .int .i64 ch, .int .i64 (offN nw n), .int .i64 (offC K (P.map (·.1)) ms nw n cm sp.tr), .slice lp' P'.length lc', .slice kp K.length kc], .int .u8 (offS K (P.map (·.1)) ms nw n sp.tr), .int .i64 (offE nw n)]) ∧
      P'.map (·.1) = offA K (P.map (·.1)) ms nw n cm wt sp ∧ RefB w' (.slice lp' P'.length lc') (.slice kp K.length kc) P' K ∧ Only [] w w' ∧ ∀ x ∈ rbl P' (.slice lp' P'.length lc') (.slice kp K.length kc), x ∈ rbl P (.slice lp P.length lc) (.slice kp K.length kc) ∨ w.heap.size ≤ x := by
  unfold offS offE offN offC offA
  by_cases hr : refused nw n
  · simp only [if_pos hr]
    refine (ref13_Offer_not (lp := lp) (lc := lc) (kp := kp) (kc := kc) (P := P) (K := K) ms wt ch nw cm n sp hr w).mono ?_
    rintro e w' ⟨rfl, o⟩
    exact ⟨lp, lc, P, rfl, rfl, h.only o (by simp), o, fun x hx => .inl hx⟩
  · simp only [if_neg hr]
    have h1 : nw ≤ n ∧ n ≤ 1099511627776 := by unfold refused at hr; omega
    exact ref13_Offer h hK hP hs ms wt ch nw cm n sp h1.1 h1.2 (by omega) hw1 hw2 hc1 hc2

theorem ref13_DueX (h : RefB w (.slice lp P.length lc) (.slice kp K.length kc) P K) (hs : (P.map (fun p => p.1.due)).Pairwise (· ≤ ·)) (hP : P.length ≤ 5000) (ms wt ch nw cm n : Int) :
    Calls Try.prog 56 #[.agg #[.int .i64 ms, .int .i64 wt, .int .i64 ch, .int .i64 nw, .int .i64 cm, .slice lp P.length lc, .slice kp K.length kc], .int .i64 n] w fun e w' => ∃ (lp' : Option Addr) (lc' : Nat) (P' D : List (Ab × Value)) (g : Option Addr) (gc : Nat), e = .returned (.tuple #[.agg #[.int .i64 ms, .int .i64 wt, .int .i64 ch, .int .i64 (offN nw n), .int .i64 cm, .slice lp' P'.length lc', .slice kp K.length kc], .slice g (dueX (P.map (·.1)) nw n).length gc, .int .i64 (offE nw n)]) ∧
      D.map (·.1) = dueX (P.map (·.1)) nw n ∧ P'.map (·.1) = dueR (P.map (·.1)) nw n ∧ RefB w' (.slice lp' P'.length lc') (.slice kp K.length kc) P' K ∧ SliceIs w' 71 3 (D.map encG) (.slice g (dueX (P.map (·.1)) nw n).length gc) ∧ (∀ p ∈ D, SliceIs w' 65 10 (p.1.sps.map Sp.cells) p.2) ∧ Only [] w w' ∧ (∀ x ∈ rbl P' (.slice lp' P'.length lc') (.slice kp K.length kc), x ∈ rbl P (.slice lp P.length lc) (.slice kp K.length kc) ∨ w.heap.size ≤ x) ∧ (∀ x ∈ blockOf (.slice g (dueX (P.map (·.1)) nw n).length gc), w.heap.size ≤ x) ∧ (∀ p ∈ D, ∀ x ∈ blockOf p.2, x ∈ rbl P (.slice lp P.length lc) (.slice kp K.length kc)) := by
  unfold offE offN dueX dueR
  by_cases hr : refused nw n
  · simp only [if_pos hr]
    refine (ref13_Due_not (lp := lp) (lc := lc) (kp := kp) (kc := kc) (P := P) (K := K) ms wt ch nw cm n hr w).mono ?_
    rintro e w' ⟨rfl, o⟩
    exact ⟨lp, lc, P, [], none, 0, rfl, rfl, rfl, h.only o (by simp), .nil, by simp, o, fun x hx => .inl hx, by simp [blockOf], by simp⟩
  · simp only [if_neg hr]
    have h1 : nw ≤ n ∧ n ≤ 1099511627776 := by unfold refused at hr; omega
    refine (ref13_Due h hs hP ms wt ch nw cm n h1.1 h1.2).mono ?_
    rintro e w' ⟨lp', lc', P', D, g, gc, rfl, q1, q2, q3, q4, q5, q6, q7, q8, q9⟩
    have hl : D.length = (dueA n (P.map (·.1))).length := by rw [← q1, List.length_map]
    rw [hl] at q4 q8 ⊢
    exact ⟨lp', lc', P', D, g, gc, rfl, q1, q2, q3, q4, q5, q6, q7, q8, q9⟩
end
end Go.Proofs.Ytcppnmogdmpdbaa
