/- The chapter's example of layer 13, walked. -/
import Derived.Test.YtcppnmogdmpdbaaKg
set_option linter.unusedVariables false
set_option linter.unusedSimpArgs false
namespace Go.Proofs.Ytcppnmogdmpdbaa
open Go.RowKit Go.Mk Go.Hp
attribute [-go_sem] Builtin.append_

theorem tail_new_nil0 (wt c : Int) (w : World) :
    Calls Try.prog 29 #[.int .i64 0, .int .i64 wt, .int .i64 c] w fun e w' => e = .returned (.pointer none) ∧ w' = w := by
  go_enter Try.func29, Try.ntmps29
  go_wp2_with fail
  refine (heap_new_nil 0 (by omega)).mono ?_
  rintro e w1 ⟨rfl, rfl⟩
  go_wp2_with fail
  go_ret
  exact ⟨rfl, rfl⟩

theorem tail_new_nil1 (w : World) :
    Calls Try.prog 29 #[.int .i64 1, .int .i64 1, .int .i64 0] w fun e w' => e = .returned (.pointer none) ∧ Only [] w w' := by
  go_enter Try.func29, Try.ntmps29
  go_wp2_with fail
  refine (heap_new 1 (by omega) (by omega)).mono ?_
  rintro e w1 ⟨hp, Fh, rfl, hH, hF, o1⟩
  go_wp2_with fail
  go_ret
  exact ⟨rfl, o1⟩

/-- A span of a trace, and nothing else. -/
def sp0 (hi lo : Int) : Sp := ⟨(hi, lo), 0, 0, ByteArray.empty, 0, 0, false, 0⟩

/-- A group's cells. -/
theorem Groups.cell {w : World} {p : Option Addr} {len c : Nat} {D : List Ab} {G : List Wr} (h : Groups w (.slice p len c) D G) {i : Nat} {a : Ab} (hi : D[i]? = some a) :
    ∃ g off pa pc q, p = some ⟨g, off, none⟩ ∧ g < w.heap.size ∧ G[i]? = some q ∧ q.ab = a ∧ q.sv = .slice pa a.sps.length pc ∧ w.cell? ⟨g, off + i * 3, none⟩ = some (.int .u64 a.tr.1) ∧ w.cell? ⟨g, off + i * 3 + 1, none⟩ = some (.int .u64 a.tr.2) ∧ w.cell? ⟨g, off + i * 3 + 2, none⟩ = some (.slice pa a.sps.length pc) := by
  have hab := h.ab
  subst hab
  rw [List.getElem?_map] at hi
  cases hG : G[i]? with
  | none => rw [hG] at hi; cases hi
  | some q =>
    rw [hG] at hi
    simp only [Option.map_some, Option.some.injEq] at hi
    subst hi
    have hsl := h.sl
    obtain ⟨pa, pc, hsv⟩ := (h.sp q (List.mem_of_getElem? hG)).form
    rw [List.length_map] at hsv
    generalize hX : G.map grp = Y at hsl
    generalize hV : Value.slice p len c = V at hsl
    cases hsl with
    | nil =>
      have hl : G.length = 0 := by simpa using congrArg List.length hX
      have := (List.getElem?_eq_some_iff.1 hG).1
      omega
    | @row _ g off cap2 hr =>
      obtain ⟨h3, _, _⟩ := Value.slice.inj hV
      subst hX
      have hx : (G.map grp)[i]? = some (grp q) := by rw [List.getElem?_map, hG]; rfl
      refine ⟨g, off, pa, pc, q, h3, hr.lt, rfl, rfl, hsv, hr.cell (f := 0) hx rfl, hr.cell (f := 1) hx rfl, ?_⟩
      rw [show Value.slice pa q.ab.sps.length pc = q.sv from hsv.symm]
      exact hr.cell (f := 2) hx rfl

set_option maxRecDepth 100000 in
set_option maxHeartbeats 1000000 in
theorem known13 (w : World) : Calls Try.prog 30 #[] w fun e w' => e = .returned (.bool true) ∧ Only [] w w' := by
  go_enter Try.func30, Try.ntmps30
  go_wp2_with fail
  refine (town_new 2 10 1 (by omega) (by omega) (by omega) (by omega) (by omega) (by omega)).mono ?_
  rintro e w1 ⟨tp, rfl, h1⟩
  have H1 := Lib.hid h1
  clear h1
  go_wp2_with fail
  refine (tail_new_nil0 1 1 _).mono ?_
  rintro e w2 ⟨rfl, rfl⟩
  go_wp2_with fail
  refine (tail_new_nil1 _).mono ?_
  rintro e w3 ⟨rfl, o3⟩
  have H3 := Lib.hid (H1.out.only o3 (by simp) (by simp))
  clear H1 o3
  go_wp2_with fail
  refine (town_take H3.out 0 (sp0 0 1) (by omega) (by omega) rfl (by decide) (by omega)).mono ?_
  rintro e w4 ⟨rfl, h4, _⟩
  have H4 : Hid (TObj w [] w4 tp 2 10 1 0 1 (fun _ => none) [⟨0, 10, (0, 1), [sp0 0 1]⟩]) := h4
  clear H3 h4
  go_wp2_with fail
  refine (town_take H4.out 4 (sp0 0 1) (by omega) (by omega) rfl (by decide) (by decide)).mono ?_
  rintro e w5 ⟨rfl, h5, _⟩
  have H5 : Hid (TObj w [] w5 tp 2 10 1 4 1 (fun _ => none) [⟨0, 10, (0, 1), [sp0 0 1, sp0 0 1]⟩]) := h5
  clear H4 h5
  go_wp2_with fail
  refine (town_full H5.out 4 (sp0 0 1) (by omega) (by omega) rfl (by decide)).mono ?_
  rintro e w6 ⟨rfl, h6, _⟩
  have H6 := Lib.hid h6
  clear H5 h6
  go_wp2_with fail
  refine (town_Due H6.out 9 (by omega) (by omega)).mono ?_
  rintro e w7 ⟨p7, c7, G7, rfl, _, h7, _⟩
  have H7 : Hid (TObj w [] w7 tp 2 10 1 9 1 (fun _ => none) [⟨0, 10, (0, 1), [sp0 0 1, sp0 0 1]⟩]) := h7
  rw [show (dueA 9 [(⟨0, 10, (0, 1), [sp0 0 1, sp0 0 1]⟩ : Ab)]).length = 0 from rfl]
  clear H6 h7
  go_wp2_with fail
  refine (town_Due H7.out 10 (by omega) (by omega)).mono ?_
  rintro e w8 ⟨p8, c8, G8, rfl, g8, h8, _⟩
  have g8' : Groups w8 (.slice p8 1 c8) [⟨0, 10, (0, 1), [sp0 0 1, sp0 0 1]⟩] G8 := g8
  obtain ⟨g, off, pa, pc, q, rfl, hg, _, _, _, x0, x1, x2⟩ := g8'.cell (i := 0) rfl
  have H8 : Hid (TObj w [] w8 tp 2 10 1 10 1 (fun _ => none) []) := h8
  rw [show (dueA 10 [(⟨0, 10, (0, 1), [sp0 0 1, sp0 0 1]⟩ : Ab)]).length = 1 from rfl]
  simp only [List.length_cons, List.length_nil, Nat.zero_mul, Nat.add_zero] at x0 x1 x2
  clear g8 g8' h8 H7
  go_wp2_with fail
  refine (town_Len H8.out).mono ?_
  rintro e w9 ⟨rfl, rfl⟩
  rw [show spansA [] = 0 from rfl]
  go_wp2_with fail
  go_ret
  exact ⟨rfl, H8.out.out⟩

end Go.Proofs.Ytcppnmogdmpdbaa
