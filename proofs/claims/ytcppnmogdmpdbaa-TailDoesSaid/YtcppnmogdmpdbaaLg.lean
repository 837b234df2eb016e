/- A buffer refuses a time that has gone, or that is too great; those that wait stand in the order of their times. -/
import Derived.Test.YtcppnmogdmpdbaaLf
set_option linter.unusedVariables false
set_option linter.unusedSimpArgs false
namespace Go.Proofs.Ytcppnmogdmpdbaa
open Go.RowKit Go.Mk Go.Hp
attribute [-go_sem] Builtin.append_

section
variable {w0 w w' : World} {X : List Nat} {tp : Nat} {most wait cache now came : Int} {K : List Dec} {A : List Ab}

theorem KObj.nowCell (h : KObj w0 X w tp most wait cache now came K A) : w.cell? ⟨tp, 6, none⟩ = some (.int .i64 now) := by
  obtain ⟨b, Fh, ov, Q, rfl, h4, _⟩ := h
  obtain ⟨mst, msr, msk, hE, hM⟩ := h4.env
  rw [cell_of_blk hE.blk]; rfl

set_option maxRecDepth 100000 in
set_option maxHeartbeats 1000000 in
theorem kobj_Offer_not (h : KObj w0 X w tp most wait cache now came K A) (n : Int) (sp : Sp) (hn : n < now ∨ 1099511627776 < n) :
    Calls Try.prog 31 #[.pointer (some ⟨tp, 0, none⟩), .int .i64 n, .agg sp.arr] w fun e w' => e = .returned (.tuple #[.int .u8 0, .int .u16 60]) ∧
      KObj w0 X w' tp most wait cache now came K A ∧ ∀ x ∈ X, w'.heap[x]? = w.heap[x]? := by
  have HX := Lib.hid (show ∀ x ∈ X, x < w.heap.size by obtain ⟨b, Fh, ov, Q, _, _, _, _, _, h6, _⟩ := h; exact h6)
  have o1 : Only [] w (w.alloc (.cells sp.arr 65)) := (Only.refl _ _).alloc _
  have CT := Lib.hid (turn_not tp now n _ (o1.cell h.nowCell (by simp)) hn)
  have HO := Lib.hid (And.intro (h.only o1 (by simp) (by simp)) o1)
  clear h o1 hn
  unfold Sp.arr at *
  go_enter Try.func31, Try.ntmps31
  go_wp2_with fail
  refine CT.out.mono ?_
  rintro e w2 ⟨rfl, rfl⟩
  go_wp2_with fail
  go_ret2
  exact ⟨rfl, HO.out.1, fun x hx => HO.out.2.block x (HX.out x hx) (by simp)⟩

set_option maxRecDepth 100000 in
set_option maxHeartbeats 1000000 in
theorem kobj_Due_not (h : KObj w0 X w tp most wait cache now came K A) (n : Int) (hn : n < now ∨ 1099511627776 < n) :
    Calls Try.prog 32 #[.pointer (some ⟨tp, 0, none⟩), .int .i64 n] w fun e w' => e = .returned (.tuple #[.slice none 0 0, .int .u16 60]) ∧ w' = w := by
  have CT := Lib.hid (turn_not tp now n _ h.nowCell hn)
  clear h hn
  go_enter Try.func32, Try.ntmps32
  go_wp2_with fail
  refine CT.out.mono ?_
  rintro e w2 ⟨rfl, rfl⟩
  go_wp2_with fail
  go_ret2
  exact ⟨rfl, rfl⟩

theorem KObj.dues (h : KObj w0 X w tp most wait cache now came K A) : (A.map (·.due)).Pairwise (· ≤ ·) := by
  obtain ⟨b, Fh, ov, Q, rfl, h4, rfl, _⟩ := h
  obtain ⟨mst, msr, msk, hE, hM⟩ := h4.env
  have hs : SortedT (Q.map tmOf) := hE.heap.sorted
  have h1 := List.pairwise_map.1 hs
  refine List.pairwise_map.2 (List.pairwise_map.2 (h1.imp (fun {a b} hab => ?_)))
  have := of_decide_eq_true hab
  simp only [tmOf] at this
  show a.due ≤ b.due
  omega
end
end Go.Proofs.Ytcppnmogdmpdbaa
