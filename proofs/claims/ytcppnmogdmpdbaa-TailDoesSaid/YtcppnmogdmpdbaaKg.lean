/- A buffer of package tail as an object: what waits in it, in order; its methods. -/
import Derived.Test.YtcppnmogdmpdbaaKf
set_option linter.unusedVariables false
set_option linter.unusedSimpArgs false
namespace Go.Proofs.Ytcppnmogdmpdbaa
open Go.RowKit Go.Mk Go.Hp
attribute [-go_sem] Builtin.append_

def spansA (A : List Ab) : Nat := (A.map fun a => a.sps.length).sum
theorem spans_ab (Q : List Wr) : spansOf Q = spansA (Q.map Wr.ab) := by unfold spansOf spansA; rw [List.map_map]; rfl

/-- The buffer at tp holds what waits (A), and lies in blocks that are none of w0's, nor of X. -/
def TObj (w0 : World) (X : List Nat) (w : World) (tp : Nat) (most wait cache now came : Int) (Kn : Tr → Option Bool) (A : List Ab) : Prop :=
  ∃ b Fh ov Or Q, b.tp = tp ∧ TailIs w b Fh ov most wait cache now came Kn Or Q ∧ Q.map Wr.ab = A ∧ Only [] w0 w ∧ (∀ x ∈ foot b Fh (blockOf ov) Q, w0.heap.size ≤ x ∧ x ∉ X) ∧ ∀ x ∈ X, x < w.heap.size

section
variable {w0 w w' : World} {X : List Nat} {tp : Nat} {most wait cache now came : Int} {Kn : Tr → Option Bool} {A : List Ab}

theorem TObj.out (h : TObj w0 X w tp most wait cache now came Kn A) : Only [] w0 w := by
  obtain ⟨b, Fh, ov, Or, Q, _, _, _, h4, _⟩ := h
  exact h4
theorem TailIs.only {b : TB} {Fh : List Nat} {ov : Value} {Or : List Tr} {Q : List Wr} {S : List Nat} (h : TailIs w b Fh ov most wait cache now came Kn Or Q) (ho : Only S w w') (hn : ∀ x ∈ foot b Fh (blockOf ov) Q, x ∉ S) : TailIs w' b Fh ov most wait cache now came Kn Or Q := by
  obtain ⟨mst, msr, msk, hE, hM⟩ := h.env
  exact ⟨⟨mst, msr, msk, hE.only ho hn, hM⟩, h.ap, h.num⟩
theorem TailIs.lt {b : TB} {Fh : List Nat} {ov : Value} {Or : List Tr} {Q : List Wr} (h : TailIs w b Fh ov most wait cache now came Kn Or Q) : ∀ x ∈ foot b Fh (blockOf ov) Q, x < w.heap.size := by
  obtain ⟨mst, msr, msk, hE, hM⟩ := h.env
  exact hE.lt
theorem TObj.only {S : List Nat} (h : TObj w0 X w tp most wait cache now came Kn A) (ho : Only S w w') (hs : ∀ x ∈ S, x ∈ X) (hs' : ∀ x ∈ S, w0.heap.size ≤ x) : TObj w0 X w' tp most wait cache now came Kn A := by
  obtain ⟨b, Fh, ov, Or, Q, h1, h2, h3, h4, h5, h6⟩ := h
  exact ⟨b, Fh, ov, Or, Q, h1, h2.only ho (fun x hx hm => (h5 x hx).2 (hs x hm)), h3, h4.trans' ho (fun x hx hlt => absurd (hs' x hx) (by omega)), h5, fun x hx => ho.lt (h6 x hx)⟩
/-- Other blocks are kept apart from now on. -/
theorem TObj.swap {X' S : List Nat} (h : TObj w0 X w tp most wait cache now came Kn A) (ho : Only S w w') (hS : ∀ x ∈ S, x ∈ X) (hS' : ∀ x ∈ S, w0.heap.size ≤ x) (hX : ∀ x ∈ X', x ∈ X ∨ w.heap.size ≤ x) (hX' : ∀ x ∈ X', x < w'.heap.size) : TObj w0 X' w' tp most wait cache now came Kn A := by
  obtain ⟨b, Fh, ov, Or, Q, h1, h2, h3, h4, h5, h6⟩ := h
  have hl := h2.lt
  refine ⟨b, Fh, ov, Or, Q, h1, h2.only ho (fun x hx hm => (h5 x hx).2 (hS x hm)), h3, h4.trans' ho (fun x hx hlt => absurd (hS' x hx) (by omega)), fun x hx => ⟨(h5 x hx).1, fun hm => ?_⟩, hX'⟩
  rcases hX x hm with h7 | h7
  · exact (h5 x hx).2 h7
  · have := hl x hx; omega

theorem town_new (s wt c : Int) (h1 : 1 ≤ s) (h2 : s ≤ 5000) (h3 : 1 ≤ wt) (h4 : wt ≤ 1099511627776) (h5 : 1 ≤ c) (h6 : c ≤ 5000) :
    Calls Try.prog 29 #[.int .i64 s, .int .i64 wt, .int .i64 c] w fun e w' => ∃ tp, e = .returned (.pointer (some ⟨tp, 0, none⟩)) ∧ TObj w [] w' tp s wt c 0 0 (fun _ => none) [] := by
  refine (tail_new s wt c h1 h2 h3 h4 h5 h6).mono ?_
  rintro e w' ⟨b, Fh, rfl, h7, h8, h9⟩
  exact ⟨b.tp, rfl, b, Fh, _, _, _, rfl, h7, rfl, h8, fun x hx => ⟨h9 x hx, by simp⟩, by simp⟩

theorem town_Len (h : TObj w0 X w tp most wait cache now came Kn A) :
    Calls Try.prog 35 #[.pointer (some ⟨tp, 0, none⟩)] w fun e w' => e = .returned (.int .i64 (spansA A)) ∧ w' = w := by
  obtain ⟨b, Fh, ov, Or, Q, rfl, h2, rfl, _⟩ := h
  rw [← spans_ab]
  exact tail_Len h2

theorem foot_sub {Y : List Nat} {b : TB} {Fh : List Nat} {ov : Value} {Q : List Wr} (hY : ∀ x ∈ Y, x ∉ foot b Fh (blockOf ov) Q) (ho : Only (foot b Fh (blockOf ov) Q) w w') (hl : ∀ x ∈ Y, x < w.heap.size) : ∀ x ∈ Y, w'.heap[x]? = w.heap[x]? := fun x hx => ho.block x (hl x hx) (hY x hx)

theorem town_take (h : TObj w0 X w tp most wait cache now came Kn A) (n : Int) (sp : Sp) (h1 : now ≤ n) (h2 : n ≤ 1099511627776) (hk : Kn sp.tr = none) (hfull : (spansA A : Int) < most) (hc : came < 1000000) :
    Calls Try.prog 31 #[.pointer (some ⟨tp, 0, none⟩), .int .i64 n, .agg sp.arr] w fun e w' => e = .returned (.tuple #[.int .u8 1, .int .u16 0]) ∧
      TObj w0 X w' tp most wait cache n (cameA A came sp.tr) Kn (takeA A came (n + wait) sp) ∧ ∀ x ∈ X, w'.heap[x]? = w.heap[x]? := by
  obtain ⟨b, Fh, ov, Or, Q, rfl, h4, rfl, h6, h7, h8⟩ := h
  refine (offer_take h4 n sp h1 h2 hk (by rw [spans_ab]; exact hfull) hc).mono ?_
  rintro e w' ⟨rfl, Fh', Q', k1, k2, k3, k4⟩
  refine ⟨rfl, ⟨b, Fh', ov, Or, Q', rfl, k1, k2, h6.trans' k3 (fun x hx hlt => absurd (h7 x hx).1 (by omega)), fun x hx => ?_, fun x hx => k3.lt (h8 x hx)⟩, foot_sub (fun x hx hm => (h7 x hm).2 hx) k3 h8⟩
  rcases k4 x hx with h9 | h9
  · exact h7 x h9
  · exact ⟨Nat.le_trans h6.size h9, fun hm => absurd (h8 x hm) (by omega)⟩

theorem town_full (h : TObj w0 X w tp most wait cache now came Kn A) (n : Int) (sp : Sp) (h1 : now ≤ n) (h2 : n ≤ 1099511627776) (hk : Kn sp.tr = none) (hfull : most ≤ (spansA A : Int)) :
    Calls Try.prog 31 #[.pointer (some ⟨tp, 0, none⟩), .int .i64 n, .agg sp.arr] w fun e w' => e = .returned (.tuple #[.int .u8 2, .int .u16 0]) ∧
      TObj w0 X w' tp most wait cache n came Kn A ∧ ∀ x ∈ X, w'.heap[x]? = w.heap[x]? := by
  obtain ⟨b, Fh, ov, Or, Q, rfl, h4, rfl, h6, h7, h8⟩ := h
  refine (offer_full h4 n sp h1 h2 hk (by rw [spans_ab]; exact hfull)).mono ?_
  rintro e w' ⟨rfl, k1, k3⟩
  exact ⟨rfl, ⟨b, Fh, ov, Or, Q, rfl, k1, rfl, h6.trans' k3 (fun x hx hlt => absurd (h7 x hx).1 (by omega)), h7, fun x hx => k3.lt (h8 x hx)⟩, foot_sub (fun x hx hm => (h7 x hm).2 hx) k3 h8⟩

theorem town_known (h : TObj w0 X w tp most wait cache now came Kn A) (n : Int) (sp : Sp) (h1 : now ≤ n) (h2 : n ≤ 1099511627776) (kp : Bool) (hk : Kn sp.tr = some kp) :
    Calls Try.prog 31 #[.pointer (some ⟨tp, 0, none⟩), .int .i64 n, .agg sp.arr] w fun e w' => e = .returned (.tuple #[.int .u8 (if kp then 4 else 3), .int .u16 0]) ∧
      TObj w0 X w' tp most wait cache n came Kn A ∧ ∀ x ∈ X, w'.heap[x]? = w.heap[x]? := by
  obtain ⟨b, Fh, ov, Or, Q, rfl, h4, rfl, h6, h7, h8⟩ := h
  refine (offer_known h4 n sp h1 h2 kp hk).mono ?_
  rintro e w' ⟨rfl, k1, k3⟩
  exact ⟨rfl, ⟨b, Fh, ov, Or, Q, rfl, k1, rfl, h6.trans' k3 (fun x hx hlt => absurd (h7 x hx).1 (by omega)), h7, fun x hx => k3.lt (h8 x hx)⟩, foot_sub (fun x hx hm => (h7 x hm).2 hx) k3 h8⟩

def dueA (n : Int) (A : List Ab) : List Ab := A.takeWhile (fun a => decide (a.due ≤ n))
def restA (n : Int) (A : List Ab) : List Ab := A.dropWhile (fun a => decide (a.due ≤ n))
theorem dueA_map (n : Int) (Q : List Wr) : (dueQ n Q).map Wr.ab = dueA n (Q.map Wr.ab) := by unfold dueQ dueA; rw [List.takeWhile_map]; rfl
theorem restA_map (n : Int) (Q : List Wr) : (restQ n Q).map Wr.ab = restA n (Q.map Wr.ab) := by unfold restQ restA; rw [List.dropWhile_map]; rfl

/-- What came out: the groups' slice, and each one's spans. -/
structure Groups (w : World) (gv : Value) (D : List Ab) (G : List Wr) : Prop where
  ab : G.map Wr.ab = D
  sl : SliceIs w 71 3 (G.map grp) gv
  sp : ∀ q ∈ G, SliceIs w 65 10 (q.sps.map Sp.cells) q.sv

theorem town_Due (h : TObj w0 X w tp most wait cache now came Kn A) (n : Int) (h1 : now ≤ n) (h2 : n ≤ 1099511627776) :
    Calls Try.prog 32 #[.pointer (some ⟨tp, 0, none⟩), .int .i64 n] w fun e w' => ∃ p c G, e = .returned (.tuple #[.slice p (dueA n A).length c, .int .u16 0]) ∧ Groups w' (.slice p (dueA n A).length c) (dueA n A) G ∧
      TObj w0 X w' tp most wait cache n came Kn (restA n A) ∧ ∀ x ∈ X, w'.heap[x]? = w.heap[x]? := by
  obtain ⟨b, Fh, ov, Or, Q, rfl, h4, rfl, h6, h7, h8⟩ := h
  refine (tail_Due h4 n h1 h2).mono ?_
  rintro e w' ⟨gv, rfl, k1, k2, k3, k4, k5⟩
  obtain ⟨p, c, hgv⟩ := k1.form
  rw [List.length_map] at hgv
  have hlen : (dueQ n Q).length = (dueA n (Q.map Wr.ab)).length := by rw [← dueA_map, List.length_map]
  rw [hlen] at hgv
  subst hgv
  refine ⟨p, c, dueQ n Q, rfl, ⟨dueA_map n Q, k1, fun q hq => (k2 q hq).sl⟩, ⟨b, Fh, ov, Or, restQ n Q, rfl, k3, restA_map n Q, h6.trans' k4 (fun x hx hlt => absurd (h7 x hx).1 (by omega)), fun x hx => ?_, fun x hx => k4.lt (h8 x hx)⟩, foot_sub (fun x hx hm => (h7 x hm).2 hx) k4 h8⟩
  refine h7 x ?_
  rcases mem_foot.1 hx with h | h | h | ⟨q, hq, h⟩
  · exact mem_foot.2 (.inl h)
  · exact mem_foot.2 (.inr (.inl h))
  · exact mem_foot.2 (.inr (.inr (.inl h)))
  · exact mem_foot.2 (.inr (.inr (.inr ⟨q, (List.dropWhile_sublist _).subset hq, h⟩)))
end

/-- The first one's time; false: there is none. -/
def nextA : List Ab → Int × Bool
  | [] => (0, false)
  | a :: _ => (a.due, true)

set_option maxRecDepth 100000 in
set_option maxHeartbeats 1000000 in
theorem town_Next {w0 w : World} {X : List Nat} {tp : Nat} {most wait cache now came : Int} {Kn : Tr → Option Bool} {A : List Ab} (h : TObj w0 X w tp most wait cache now came Kn A) :
    Calls Try.prog 36 #[.pointer (some ⟨tp, 0, none⟩)] w fun e w' => e = .returned (.tuple #[.int .i64 (nextA A).1, .bool (nextA A).2]) ∧ Only [] w w' := by
  obtain ⟨b, Fh, ov, Or, Q, rfl, h4, rfl, h6, h7, h8⟩ := h
  obtain ⟨mst, msr, msk, hE, hM⟩ := h4.env
  have C := Lib.hid (heap_First hE.heap)
  have r0 : w.cell? ⟨b.tp, 0, none⟩ = some (.pointer (some ⟨b.hp, 0, none⟩)) := by rw [cell_of_blk hE.blk]; rfl
  have htp := lt_of_blk hE.blk
  clear hE hM h4 h6 h7 h8
  go_enter Try.func36, Try.ntmps36
  go_wp2_with fail
  refine C.out.mono ?_
  rintro e w1 ⟨rfl, o1⟩
  cases Q with
  | nil =>
    simp only [List.map_nil, firstV]
    go_wp2_with fail
    go_ret2
    exact ⟨rfl, o1.alloc _⟩
  | cons q Q =>
    simp only [List.map_cons, firstV, tmOf]
    go_wp2_with fail
    go_ret2
    exact ⟨rfl, o1.alloc _⟩

end Go.Proofs.Ytcppnmogdmpdbaa
