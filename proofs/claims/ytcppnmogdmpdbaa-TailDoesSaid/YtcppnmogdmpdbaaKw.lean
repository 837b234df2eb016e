/- A buffer of package tail with its decisions as a list, the oldest first: all its methods. -/
import Derived.Test.YtcppnmogdmpdbaaKv
set_option linter.unusedVariables false
set_option linter.unusedSimpArgs false
namespace Go.Proofs.Ytcppnmogdmpdbaa
open Go.RowKit Go.Mk Go.Hp
attribute [-go_sem] Builtin.append_

def KObj (w0 : World) (X : List Nat) (w : World) (tp : Nat) (most wait cache now came : Int) (K : List Dec) (A : List Ab) : Prop :=
  ∃ b Fh ov Q, b.tp = tp ∧ TailIs w b Fh ov most wait cache now came (asc K) (K.map (·.1)) Q ∧ Q.map Wr.ab = A ∧ Only [] w0 w ∧ (∀ x ∈ foot b Fh (blockOf ov) Q, w0.heap.size ≤ x ∧ x ∉ X) ∧ (∀ x ∈ X, x < w.heap.size) ∧ DecOk cache K

section
variable {w0 w w' : World} {X : List Nat} {tp : Nat} {most wait cache now came : Int} {K : List Dec} {A : List Ab}

theorem KObj.out (h : KObj w0 X w tp most wait cache now came K A) : Only [] w0 w := by
  obtain ⟨b, Fh, ov, Q, _, _, _, h4, _⟩ := h
  exact h4
theorem KObj.only {S : List Nat} (h : KObj w0 X w tp most wait cache now came K A) (ho : Only S w w') (hs : ∀ x ∈ S, x ∈ X) (hs' : ∀ x ∈ S, w0.heap.size ≤ x) : KObj w0 X w' tp most wait cache now came K A := by
  obtain ⟨b, Fh, ov, Q, h1, h2, h3, h4, h5, h6, h7⟩ := h
  exact ⟨b, Fh, ov, Q, h1, h2.only ho (fun x hx hm => (h5 x hx).2 (hs x hm)), h3, h4.trans' ho (fun x hx hlt => absurd (hs' x hx) (by omega)), h5, fun x hx => ho.lt (h6 x hx), h7⟩
theorem KObj.swap {X' S : List Nat} (h : KObj w0 X w tp most wait cache now came K A) (ho : Only S w w') (hS : ∀ x ∈ S, x ∈ X) (hS' : ∀ x ∈ S, w0.heap.size ≤ x) (hX : ∀ x ∈ X', x ∈ X ∨ w.heap.size ≤ x) (hX' : ∀ x ∈ X', x < w'.heap.size) : KObj w0 X' w' tp most wait cache now came K A := by
  obtain ⟨b, Fh, ov, Q, h1, h2, h3, h4, h5, h6, h7⟩ := h
  have hl := h2.lt
  refine ⟨b, Fh, ov, Q, h1, h2.only ho (fun x hx hm => (h5 x hx).2 (hS x hm)), h3, h4.trans' ho (fun x hx hlt => absurd (hS' x hx) (by omega)), fun x hx => ⟨(h5 x hx).1, fun hm => ?_⟩, hX', h7⟩
  rcases hX x hm with h8 | h8
  · exact (h5 x hx).2 h8
  · have := hl x hx; omega
theorem KObj.num (h : KObj w0 X w tp most wait cache now came K A) : (A.map (·.tr)).Nodup ∧ (spansA A : Int) ≤ most ∧ 0 ≤ now ∧ now ≤ 1099511627776 ∧ 0 ≤ came ∧ ∀ a ∈ A, a.due ≤ now + wait := by
  obtain ⟨b, Fh, ov, Q, rfl, h4, rfl, _⟩ := h
  have hN := h4.num
  refine ⟨by rw [ab_tr]; exact hN.trs, by rw [← spans_ab]; exact hN.full, hN.now0, hN.now1, hN.came0, fun a ha => ?_⟩
  obtain ⟨q, hq, rfl⟩ := List.mem_map.1 ha
  exact hN.due q hq
theorem KObj.dec (h : KObj w0 X w tp most wait cache now came K A) : DecOk cache K := by
  obtain ⟨b, Fh, ov, Q, _, _, _, _, _, _, h7⟩ := h
  exact h7

theorem kobj_new (s wt c : Int) (h1 : 1 ≤ s) (h2 : s ≤ 5000) (h3 : 1 ≤ wt) (h4 : wt ≤ 1099511627776) (h5 : 1 ≤ c) (h6 : c ≤ 5000) :
    Calls Try.prog 29 #[.int .i64 s, .int .i64 wt, .int .i64 c] w fun e w' => ∃ tp, e = .returned (.pointer (some ⟨tp, 0, none⟩)) ∧ KObj w [] w' tp s wt c 0 0 [] [] := by
  refine (tail_new s wt c h1 h2 h3 h4 h5 h6).mono ?_
  rintro e w' ⟨b, Fh, rfl, h7, h8, h9⟩
  exact ⟨b.tp, rfl, b, Fh, _, _, rfl, h7, rfl, h8, fun x hx => ⟨h9 x hx, by simp⟩, by simp, ⟨by simp, by simp; omega⟩⟩

theorem kobj_Len (h : KObj w0 X w tp most wait cache now came K A) :
    Calls Try.prog 35 #[.pointer (some ⟨tp, 0, none⟩)] w fun e w' => e = .returned (.int .i64 (spansA A)) ∧ w' = w := by
  obtain ⟨b, Fh, ov, Q, rfl, h2, rfl, _⟩ := h
  rw [← spans_ab]
  exact tail_Len h2

theorem kobj_take (h : KObj w0 X w tp most wait cache now came K A) (n : Int) (sp : Sp) (h1 : now ≤ n) (h2 : n ≤ 1099511627776) (hk : asc K sp.tr = none) (hfull : (spansA A : Int) < most) (hc : came < 1000000) :
    Calls Try.prog 31 #[.pointer (some ⟨tp, 0, none⟩), .int .i64 n, .agg sp.arr] w fun e w' => e = .returned (.tuple #[.int .u8 1, .int .u16 0]) ∧
      KObj w0 X w' tp most wait cache n (cameA A came sp.tr) K (takeA A came (n + wait) sp) ∧ ∀ x ∈ X, w'.heap[x]? = w.heap[x]? := by
  obtain ⟨b, Fh, ov, Q, rfl, h4, rfl, h6, h7, h8, h9⟩ := h
  refine (offer_take h4 n sp h1 h2 hk (by rw [spans_ab]; exact hfull) hc).mono ?_
  rintro e w' ⟨rfl, Fh', Q', k1, k2, k3, k4⟩
  refine ⟨rfl, ⟨b, Fh', ov, Q', rfl, k1, k2, h6.trans' k3 (fun x hx hlt => absurd (h7 x hx).1 (by omega)), fun x hx => ?_, fun x hx => k3.lt (h8 x hx), h9⟩, foot_sub (fun x hx hm => (h7 x hm).2 hx) k3 h8⟩
  rcases k4 x hx with h9 | h9
  · exact h7 x h9
  · exact ⟨Nat.le_trans h6.size h9, fun hm => absurd (h8 x hm) (by omega)⟩

theorem kobj_full (h : KObj w0 X w tp most wait cache now came K A) (n : Int) (sp : Sp) (h1 : now ≤ n) (h2 : n ≤ 1099511627776) (hk : asc K sp.tr = none) (hfull : most ≤ (spansA A : Int)) :
    Calls Try.prog 31 #[.pointer (some ⟨tp, 0, none⟩), .int .i64 n, .agg sp.arr] w fun e w' => e = .returned (.tuple #[.int .u8 2, .int .u16 0]) ∧
      KObj w0 X w' tp most wait cache n came K A ∧ ∀ x ∈ X, w'.heap[x]? = w.heap[x]? := by
  obtain ⟨b, Fh, ov, Q, rfl, h4, rfl, h6, h7, h8, h9⟩ := h
  refine (offer_full h4 n sp h1 h2 hk (by rw [spans_ab]; exact hfull)).mono ?_
  rintro e w' ⟨rfl, k1, k3⟩
  exact ⟨rfl, ⟨b, Fh, ov, Q, rfl, k1, rfl, h6.trans' k3 (fun x hx hlt => absurd (h7 x hx).1 (by omega)), h7, fun x hx => k3.lt (h8 x hx), h9⟩, foot_sub (fun x hx hm => (h7 x hm).2 hx) k3 h8⟩

theorem kobj_known (h : KObj w0 X w tp most wait cache now came K A) (n : Int) (sp : Sp) (h1 : now ≤ n) (h2 : n ≤ 1099511627776) (kp : Bool) (hk : asc K sp.tr = some kp) :
    Calls Try.prog 31 #[.pointer (some ⟨tp, 0, none⟩), .int .i64 n, .agg sp.arr] w fun e w' => e = .returned (.tuple #[.int .u8 (if kp then 4 else 3), .int .u16 0]) ∧
      KObj w0 X w' tp most wait cache n came K A ∧ ∀ x ∈ X, w'.heap[x]? = w.heap[x]? := by
  obtain ⟨b, Fh, ov, Q, rfl, h4, rfl, h6, h7, h8, h9⟩ := h
  refine (offer_known h4 n sp h1 h2 kp hk).mono ?_
  rintro e w' ⟨rfl, k1, k3⟩
  exact ⟨rfl, ⟨b, Fh, ov, Q, rfl, k1, rfl, h6.trans' k3 (fun x hx hlt => absurd (h7 x hx).1 (by omega)), h7, fun x hx => k3.lt (h8 x hx), h9⟩, foot_sub (fun x hx hm => (h7 x hm).2 hx) k3 h8⟩

theorem kobj_Due (h : KObj w0 X w tp most wait cache now came K A) (n : Int) (h1 : now ≤ n) (h2 : n ≤ 1099511627776) :
    Calls Try.prog 32 #[.pointer (some ⟨tp, 0, none⟩), .int .i64 n] w fun e w' => ∃ p c G, e = .returned (.tuple #[.slice p (dueA n A).length c, .int .u16 0]) ∧ Groups w' (.slice p (dueA n A).length c) (dueA n A) G ∧
      KObj w0 X w' tp most wait cache n came K (restA n A) ∧ ∀ x ∈ X, w'.heap[x]? = w.heap[x]? := by
  obtain ⟨b, Fh, ov, Q, rfl, h4, rfl, h6, h7, h8, h9⟩ := h
  refine (tail_Due h4 n h1 h2).mono ?_
  rintro e w' ⟨gv, rfl, k1, k2, k3, k4, k5⟩
  obtain ⟨p, c, hgv⟩ := k1.form
  rw [List.length_map] at hgv
  have hlen : (dueQ n Q).length = (dueA n (Q.map Wr.ab)).length := by rw [← dueA_map, List.length_map]
  rw [hlen] at hgv
  subst hgv
  refine ⟨p, c, dueQ n Q, rfl, ⟨dueA_map n Q, k1, fun q hq => (k2 q hq).sl⟩, ⟨b, Fh, ov, restQ n Q, rfl, k3, restA_map n Q, h6.trans' k4 (fun x hx hlt => absurd (h7 x hx).1 (by omega)), fun x hx => ?_, fun x hx => k4.lt (h8 x hx), h9⟩, foot_sub (fun x hx hm => (h7 x hm).2 hx) k4 h8⟩
  refine h7 x ?_
  rcases mem_foot.1 hx with h | h | h | ⟨q, hq, h⟩
  · exact mem_foot.2 (.inl h)
  · exact mem_foot.2 (.inr (.inl h))
  · exact mem_foot.2 (.inr (.inr (.inl h)))
  · exact mem_foot.2 (.inr (.inr (.inr ⟨q, (List.dropWhile_sublist _).subset hq, h⟩)))

theorem kobj_Decide (h : KObj w0 X w tp most wait cache now came K A) (hi lo : Int) (keep : Bool) (hc5 : cache ≤ 5000) :
    Calls Try.prog 37 #[.pointer (some ⟨tp, 0, none⟩), .int .u64 hi, .int .u64 lo, .bool keep] w fun e w' => e = .returned (.tuple #[]) ∧
      KObj w0 X w' tp most wait cache now came (decK (hi, lo) keep cache K) A ∧ ∀ x ∈ X, w'.heap[x]? = w.heap[x]? := by
  obtain ⟨b, Fh, ov, Q, rfl, h4, rfl, h6, h7, h8, h9⟩ := h
  refine (decide_any h4 h9 hi lo keep hc5).mono ?_
  rintro e w' ⟨rfl, ov', k1, k3, k4⟩
  refine ⟨rfl, ⟨b, Fh, ov', Q, rfl, k1, rfl, h6.trans' k3 (fun x hx hlt => absurd (h7 x hx).1 (by omega)), fun x hx => ?_, fun x hx => k3.lt (h8 x hx), h9.dec _ _⟩, foot_sub (fun x hx hm => (h7 x hm).2 hx) k3 h8⟩
  rcases k4 x hx with h9 | h9
  · exact h7 x h9
  · exact ⟨Nat.le_trans h6.size h9, fun hm => absurd (h8 x hm) (by omega)⟩
end

/-- What is told of a trace. -/
def knownK (K : List Dec) (t : Tr) : Bool × Bool := match asc K t with
  | some k => (k, true)
  | none => (false, false)

set_option maxRecDepth 100000 in
set_option maxHeartbeats 1000000 in
theorem kobj_Known {w0 w : World} {X : List Nat} {tp : Nat} {most wait cache now came : Int} {K : List Dec} {A : List Ab} (h : KObj w0 X w tp most wait cache now came K A) (hi lo : Int) :
    Calls Try.prog 38 #[.pointer (some ⟨tp, 0, none⟩), .int .u64 hi, .int .u64 lo] w fun e w' => e = .returned (.tuple #[.bool (knownK K (hi, lo)).1, .bool (knownK K (hi, lo)).2]) ∧ Only [] w w' := by
  obtain ⟨b, Fh, ov, Q, rfl, h4, rfl, h6, h7, h8, h9⟩ := h
  obtain ⟨mst, msr, msk, hE, hM⟩ := h4.env
  have r3 : w.cell? ⟨b.tp, 3, none⟩ = some (.map (some b.mq)) := by rw [cell_of_blk hE.blk]; rfl
  have htp := lt_of_blk hE.blk
  have hlk : ∀ m, (Instr.lookup 110 (.map (some b.mq)) (.agg #[.int .u64 hi, .int .u64 lo]) true).run Try.prog (w.drewN m) = .ok (.tuple #[.bool (knownK K (hi, lo)).1, .bool (knownK K (hi, lo)).2]) (w.drewN m) := by
    obtain ⟨c, hmk⟩ := hE.mq
    have hg := hM.k (hi, lo)
    have hz : ∀ m, (zeroValue 4).run Try.prog (w.drewN m) = .ok (.bool false) (w.drewN m) := fun m => Try.zeroValue4 _
    have h2 := fun m => run_lookup_ok (P := Try.prog) Try.underlying110 keyOk_trace (hz m) (hmk.only ((Only.refl [] _).drewN m) (by simp)) (hi, lo)
    intro m
    have h3 := h2 m
    rw [hg] at h3
    unfold knownK
    cases hq : asc K (hi, lo) with
    | none => rw [hq] at h3; exact h3
    | some kv => rw [hq] at h3; exact h3
  have hlk0 := hlk 0
  have hlk1 : (Instr.lookup 110 (.map (some b.mq)) (.agg #[.int .u64 hi, .int .u64 lo]) true).run Try.prog w = .ok (.tuple #[.bool (knownK K (hi, lo)).1, .bool (knownK K (hi, lo)).2]) w := hlk0
  clear hE hM h4 h6 h7 h8 h9 hlk0
  generalize (knownK K (hi, lo)).1 = kv at *
  generalize (knownK K (hi, lo)).2 = ki at *
  go_enter Try.func38, Try.ntmps38
  go_wp2_with fail
  go_ret2
  exact ⟨rfl, Only.refl _ _⟩

theorem kobj_Next {w0 w : World} {X : List Nat} {tp : Nat} {most wait cache now came : Int} {K : List Dec} {A : List Ab} (h : KObj w0 X w tp most wait cache now came K A) :
    Calls Try.prog 36 #[.pointer (some ⟨tp, 0, none⟩)] w fun e w' => e = .returned (.tuple #[.int .i64 (nextA A).1, .bool (nextA A).2]) ∧ Only [] w w' := by
  obtain ⟨b, Fh, ov, Q, h1, h4, h5, h6, h7, h8, h9⟩ := h
  exact town_Next (w0 := w0) (X := X) ⟨b, Fh, ov, _, Q, h1, h4, h5, h6, h7, h8⟩

end Go.Proofs.Ytcppnmogdmpdbaa
