/- Package prio: slices.SortFunc over what is kept, by its place. -/
import Derived.Test.YtbboklmmnnedjaaPq
import Derived.Test.YtbboklmmnnedjaaPr
import Derived.Test.YtbboklmmnnedjaaMg
set_option linter.unusedVariables false
set_option linter.unusedSimpArgs false
namespace Go.Pr
/-- What is kept: its place, and for how much it counts. -/
structure Kt where
  p : Nat
  n : Nat
  d : Nat
deriving Inhabited
def topP : Nat := 4294967295
def cutP (x : Kt) : Kt := ⟨min x.p topP, x.n, x.d⟩
def cfP (x y : Kt) : Int := ((min x.p topP : Nat) : Int) - ((min y.p topP : Nat) : Int)
theorem cutP_of {x : Kt} (h : x.p ≤ topP) : cutP x = x := by
  unfold cutP
  rw [Nat.min_eq_left h]
end Go.Pr
namespace Go.Proofs.Ytbboklmmnnedjaa
open Go.RowKit Go.Mk Go.Pr Go.Sort Go.Shelf

def encK (x : Kt) : List Value := [.int .i64 x.p, .int .u64 x.n, .int .u64 x.d]
def encC (x : Kt) : List Value := encK (cutP x)

theorem swoP : SWO (ltOf cfP) where
  irrefl x := by unfold ltOf cfP; simp
  trans x y z h1 h2 := by unfold ltOf cfP at *; simp only [decide_eq_true_eq] at *; omega
  ntrans x y z h1 h2 := by unfold ltOf cfP at *; simp only [decide_eq_false_iff_not] at *; omega

set_option maxHeartbeats 1000000 in
theorem closure_walk (x y : Kt) (W : World) : Calls Try.prog 24 #[.agg (encC x).toArray, .agg (encC y).toArray] W fun e w' => e = .returned (.int .i64 (cfP x y)) ∧ ∃ q os', w' = grow (W.drewN q) os' := by
  have h1 : min x.p topP ≤ 4294967295 := Nat.min_le_right _ _
  have h2 : min y.p topP ≤ 4294967295 := Nat.min_le_right _ _
  unfold encC encK cfP cutP
  generalize min x.p topP = a at *
  generalize min y.p topP = b at *
  go_enter Try.func24, Try.ntmps24
  go_wp2_with fail
  go_ret
  exact ⟨rfl, 0, _, by rw [alloc_eq_grow, alloc_eq_grow, grow_grow]; rfl⟩

theorem sort_kept {w : World} {sv : Value} {L : List Kt} (h : SliceIs w 33 3 (L.map encK) sv) (hp : ∀ x ∈ L, x.p ≤ topP) (hl : L.length < 4611686018427387904) :
    Calls Try.prog 23 #[sv, .func (.func 24) #[] #[]] w fun e w' => e = .returned (.tuple #[]) ∧ ∃ L', List.Perm L' L ∧ L'.Pairwise (fun a b => a.p ≤ b.p) ∧ SliceIs w' 33 3 (L'.map encK) sv ∧ Only (blockOf sv) w w' := by
  have hcut : ∀ M : List Kt, (∀ x ∈ M, x.p ≤ topP) → M.map encC = M.map encK := fun M hM => List.map_congr_left (fun x hx => by unfold encC; rw [cutP_of (hM x hx)])
  rcases L with _ | ⟨x0, L0⟩
  · obtain ⟨p, c, rfl⟩ : ∃ p c, sv = .slice p 0 c := by
      generalize hxs : List.map encK [] = xs at h
      cases h with
      | nil => exact ⟨_, _, rfl⟩
      | row h => rw [← hxs]; exact ⟨_, _, rfl⟩
    refine (AnyF.slices_SortFunc_none { Try.sortKept with } p c _ w).mono ?_
    rintro e w' ⟨rfl, rfl⟩
    exact ⟨rfl, [], List.Perm.refl _, List.Pairwise.nil, h, Only.refl _ _⟩
  · generalize hL : x0 :: L0 = L at *
    obtain ⟨g, off, cap, rfl, hr⟩ : ∃ g off cap, sv = .slice (some ⟨g, off, none⟩) L.length cap ∧ RowMem w 33 3 (L.map encK) g off cap := by
      have hne : L.map encK ≠ [] := by rw [← hL]; simp
      have hlen : (L.map encK).length = L.length := by simp
      generalize hxs : L.map encK = xs at *
      cases h with
      | nil => exact absurd rfl hne
      | row h => exact ⟨_, _, _, by rw [hlen], h⟩
    have eg : ∀ args w, (callFunc 24 args).run Try.prog w = .ok (.enter 24 args) w := enters_of Try.func24 (by kernel_rfl) rfl
    have hk : ∀ x : Kt, (encC x).length = 3 := fun _ => rfl
    have hr2 : RowMem w 33 3 (L.map encC) g off cap := by rw [hcut L hp]; exact hr
    have hH := hr2.holdsK hk
    have hcon := AnyQ.slices_SortFunc Try.sortKept 3 Try.isAgg33 Try.sizeOf33 encC hk (fun x v hv => by simp only [encC, encK, List.mem_cons, List.not_mem_nil, or_false] at hv; rcases hv with rfl | rfl | rfl <;> rfl) cfP swoP 24 #[] g off cap L.toArray w eg (fun _ _ _ _ x y => closure_walk x y _) hH hr.lt (by simpa using hl)
    rw [List.size_toArray] at hcon
    refine Calls.mono hcon ?_
    rintro e w' ⟨rfl, d', n, os, hperm, hsort, rfl⟩
    obtain ⟨hs, _, hpm⟩ := hperm
    replace hs : d'.size = L.length := by simpa using hs
    have hP : List.Perm d'.toList L := by
      have h1 : (d'.extract 0 L.length).toList = d'.toList := by rw [← hs]; simp
      have h2 : (L.toArray.extract 0 L.length).toList = L := by simp
      rw [h1, h2] at hpm
      exact hpm
    have hpd : ∀ x ∈ d'.toList, x.p ≤ topP := fun x hx => hp x (hP.mem_iff.1 hx)
    refine ⟨rfl, d'.toList, hP, ?_, ?_, ?_⟩
    · rw [List.pairwise_iff_getElem]
      intro i j hi hj hij
      have hj' : j < d'.size := by simpa using hj
      have hi' : i < d'.size := by simpa using hi
      have := hsort i j (Nat.zero_le _) hij (by omega)
      rw [getElem!_pos d' j hj', getElem!_pos d' i hi'] at this
      have h1 := hpd d'[i] (by simp)
      have h2 := hpd d'[j] (by simp)
      unfold ltOf cfP at this
      simp only [decide_eq_false_iff_not] at this
      rw [Nat.min_eq_left h1, Nat.min_eq_left h2] at this
      simp only [Array.getElem_toList]
      omega
    · have := hr2.sorted hk n d' os hs
      rw [hcut _ hpd] at this
      have hl2 : (d'.toList.map encK).length = L.length := by simp [hs]
      have := SliceIs.row this
      rw [hl2] at this
      exact this
    · exact sortWorldK_heap _ _ _ _ _ _ _ _

end Go.Proofs.Ytbboklmmnnedjaa
