/-
  No cell of these rows narrows 'for every input' (looked for: loops, veiled, ifaces, maps, wideKeys, modest, calm, conditions, laid).
  DERIVED. THE GIVEN ROWS OF THIS SEAT. 5 by the template 'for every input the law returns true; each argument reads behind the call as it read before'; 0 by the template 'total and deterministic' (their statements: YtaldaaihkpckoaaTotals.lean).
  GIVEN WITH THE SEED: the statements are not yours to turn. If you find one false, say at which input.
  Laid BY PROGRAM, IN A SANDBOX (cutbox-rows.mjs): the forced cells as the released guide's own fill.sh prints them over the translation 425c547b6c0ef650… (all of the seat's roots in one cut). By AI agents, Wed Nov 11 2026. No macro, syntax, notation, axiom, sorry.
-/
import Derived.Test.YtaldaaihkpckoaaChecked
import GoSem.Claim
import GoSem.ClaimJoined
import GoSem.ClaimMapViews
import Derived.JoinedTies
import Derived.KernelRfl
namespace Go.Proofs.Ytaldaaihkpckoaa
/- THE CELL 'sum', in the pinned program and in every row, IS THE sha256 OF THE DUMP (.gsa) THAT YtaldaaihkpckoaaProg.lean LOADS. Nothing in Lean hashes anything: it is a label: what it is worth is what the hold of that sum in a sandbox is worth. -/
noncomputable def Try.pinned : Pinned := { name := "ytaldaaihkpckoaa", sum := "425c547b6c0ef650fd76519540cfe36dc0f8d69a6f04d01e9f49d388c229b89c", checked := Try.checked }
namespace Rows
def none {H : Type} : Left H := { results := [], args := [] }

/-- 'telemeterlaw18.DedupRow': WHATEVER THE INPUT: true; the input reads as it did. -/
def dedupRowSpec : ChangeSpec := { name := "dedupRow", fn := fun _ => fun
  | [d1, d2] => { results := [.lit (.bool true)], args := [d1, d2] }
  | _ => none }
def dedupRowRow : OpenClaim := { program := "ytaldaaihkpckoaa", sum := "425c547b6c0ef650fd76519540cfe36dc0f8d69a6f04d01e9f49d388c229b89c", func := "telemeter/telemeterlaw18.DedupRow", spec := "dedupRow", inPlace := ["slices.overlaps[int]"], apart := false }
def DedupRowSaid : Prop := dedupRowRow.holds Try.pinned (OpenSpec.ofChange dedupRowSpec)

/-- ITS FALSE NEIGHBOUR: 'it returns false'. Refute it at one input. -/
def dedupRowWrong : ChangeSpec := { name := "dedupRow", fn := fun _ => fun
  | [d1, d2] => { results := [.lit (.bool false)], args := [d1, d2] }
  | _ => none }
def DedupRowWrongFalsely : Prop := dedupRowRow.holds Try.pinned (OpenSpec.ofChange dedupRowWrong)

/-- 'telemeterlaw18.DedupTakes': WHATEVER THE INPUT: true; the input reads as it did. -/
def dedupTakesSpec : ChangeSpec := { name := "dedupTakes", fn := fun _ => fun
  | [d1, d2, d3] => { results := [.lit (.bool true)], args := [d1, d2, d3] }
  | _ => none }
def dedupTakesRow : OpenClaim := { program := "ytaldaaihkpckoaa", sum := "425c547b6c0ef650fd76519540cfe36dc0f8d69a6f04d01e9f49d388c229b89c", func := "telemeter/telemeterlaw18.DedupTakes", spec := "dedupTakes", inPlace := ["slices.overlaps[int]"], apart := false }
def DedupTakesSaid : Prop := dedupTakesRow.holds Try.pinned (OpenSpec.ofChange dedupTakesSpec)

/-- ITS FALSE NEIGHBOUR: 'it returns false'. Refute it at one input. -/
def dedupTakesWrong : ChangeSpec := { name := "dedupTakes", fn := fun _ => fun
  | [d1, d2, d3] => { results := [.lit (.bool false)], args := [d1, d2, d3] }
  | _ => none }
def DedupTakesWrongFalsely : Prop := dedupTakesRow.holds Try.pinned (OpenSpec.ofChange dedupTakesWrong)

/-- 'telemeterlaw18.DedupOnce': WHATEVER THE INPUT: true; the input reads as it did. -/
def dedupOnceSpec : ChangeSpec := { name := "dedupOnce", fn := fun _ => fun
  | [d1, d2] => { results := [.lit (.bool true)], args := [d1, d2] }
  | _ => none }
def dedupOnceRow : OpenClaim := { program := "ytaldaaihkpckoaa", sum := "425c547b6c0ef650fd76519540cfe36dc0f8d69a6f04d01e9f49d388c229b89c", func := "telemeter/telemeterlaw18.DedupOnce", spec := "dedupOnce", inPlace := ["slices.overlaps[int]"], apart := false }
def DedupOnceSaid : Prop := dedupOnceRow.holds Try.pinned (OpenSpec.ofChange dedupOnceSpec)

/-- ITS FALSE NEIGHBOUR: 'it returns false'. Refute it at one input. -/
def dedupOnceWrong : ChangeSpec := { name := "dedupOnce", fn := fun _ => fun
  | [d1, d2] => { results := [.lit (.bool false)], args := [d1, d2] }
  | _ => none }
def DedupOnceWrongFalsely : Prop := dedupOnceRow.holds Try.pinned (OpenSpec.ofChange dedupOnceWrong)

/-- 'telemeterlaw18.DedupAll': WHATEVER THE INPUT: true; the input reads as it did. -/
def dedupAllSpec : ChangeSpec := { name := "dedupAll", fn := fun _ => fun
  | [d1, d2, d3] => { results := [.lit (.bool true)], args := [d1, d2, d3] }
  | _ => none }
def dedupAllRow : OpenClaim := { program := "ytaldaaihkpckoaa", sum := "425c547b6c0ef650fd76519540cfe36dc0f8d69a6f04d01e9f49d388c229b89c", func := "telemeter/telemeterlaw18.DedupAll", spec := "dedupAll", inPlace := ["slices.overlaps[int]"], apart := false }
def DedupAllSaid : Prop := dedupAllRow.holds Try.pinned (OpenSpec.ofChange dedupAllSpec)

/-- ITS FALSE NEIGHBOUR: 'it returns false'. Refute it at one input. -/
def dedupAllWrong : ChangeSpec := { name := "dedupAll", fn := fun _ => fun
  | [d1, d2, d3] => { results := [.lit (.bool false)], args := [d1, d2, d3] }
  | _ => none }
def DedupAllWrongFalsely : Prop := dedupAllRow.holds Try.pinned (OpenSpec.ofChange dedupAllWrong)

/-- 'telemeterlaw18.DedupRoom': WHATEVER THE INPUT: true; the input reads as it did. -/
def dedupRoomSpec : ChangeSpec := { name := "dedupRoom", fn := fun _ => fun
  | [d1, d2] => { results := [.lit (.bool true)], args := [d1, d2] }
  | _ => none }
def dedupRoomRow : OpenClaim := { program := "ytaldaaihkpckoaa", sum := "425c547b6c0ef650fd76519540cfe36dc0f8d69a6f04d01e9f49d388c229b89c", func := "telemeter/telemeterlaw18.DedupRoom", spec := "dedupRoom", inPlace := ["slices.overlaps[int]"], apart := false }
def DedupRoomSaid : Prop := dedupRoomRow.holds Try.pinned (OpenSpec.ofChange dedupRoomSpec)

/-- ITS FALSE NEIGHBOUR: 'it returns false'. Refute it at one input. -/
def dedupRoomWrong : ChangeSpec := { name := "dedupRoom", fn := fun _ => fun
  | [d1, d2] => { results := [.lit (.bool false)], args := [d1, d2] }
  | _ => none }
def DedupRoomWrongFalsely : Prop := dedupRoomRow.holds Try.pinned (OpenSpec.ofChange dedupRoomWrong)

/- THE SECOND FORM. 'bulk': how many values and letters a reading holds, each counted each time it is reached (what is shared counts as often as it is met; a slice's spare places count too). A statement '..UptoSaid' is the law's where the arguments, and the package variables that the reading takes, are together of bulk at most 1048576: NARROWER than '..Said'. Prove '..Said' where nothing that the law and all that it calls make is longer than what came in: it says more and counts as full. Else prove '..UptoSaid'. A law counts once. -/
mutual
def uptoBulk {H : Type} : DataW H → Nat
  | .lit (.string bytes) => bytes.length + 1
  | .lit _ => 1
  | .nil => 1
  | .ptr d => uptoBulk d + 1
  | .slice elems spare => uptoBulkAll elems + uptoBulkAll spare + 1
  | .agg parts => uptoBulkAll parts + 1
  | .iface _ d => uptoBulk d + 1
  | .map entries => uptoBulkEntries entries + 1
  | .held _ => 1
def uptoBulkAll {H : Type} : List (DataW H) → Nat
  | [] => 0
  | d :: r => uptoBulk d + uptoBulkAll r
def uptoBulkEntries {H : Type} : List (Lit × DataW H) → Nat
  | [] => 0
  | x :: r => uptoBulkEntry x + uptoBulkEntries r
def uptoBulkEntry {H : Type} : Lit × DataW H → Nat
  | (.string bytes, d) => bytes.length + uptoBulk d + 1
  | (_, d) => uptoBulk d + 1
 end
def uptoSmall : (H : Type) → List (DataW H) → Bool := fun _ ds => decide (uptoBulkAll ds ≤ 1048576)
def OpenSpec.upto (s : _root_.Go.ChangeSpec) : _root_.Go.OpenSpec := { _root_.Go.OpenSpec.ofChange s with cond := some uptoSmall }

/-- 'telemeterlaw18.DedupRow', WHERE WHAT IT READS IS OF BULK AT MOST 1048576: true; the input reads as it did. -/
def dedupRowUptoRow : OpenClaim := { program := "ytaldaaihkpckoaa", sum := "425c547b6c0ef650fd76519540cfe36dc0f8d69a6f04d01e9f49d388c229b89c", func := "telemeter/telemeterlaw18.DedupRow", spec := "dedupRow", inPlace := ["slices.overlaps[int]"], apart := false, narrowed := true }
def DedupRowUptoSaid : Prop := dedupRowUptoRow.holds Try.pinned (OpenSpec.upto dedupRowSpec)

/-- 'telemeterlaw18.DedupTakes', WHERE WHAT IT READS IS OF BULK AT MOST 1048576: true; the input reads as it did. -/
def dedupTakesUptoRow : OpenClaim := { program := "ytaldaaihkpckoaa", sum := "425c547b6c0ef650fd76519540cfe36dc0f8d69a6f04d01e9f49d388c229b89c", func := "telemeter/telemeterlaw18.DedupTakes", spec := "dedupTakes", inPlace := ["slices.overlaps[int]"], apart := false, narrowed := true }
def DedupTakesUptoSaid : Prop := dedupTakesUptoRow.holds Try.pinned (OpenSpec.upto dedupTakesSpec)

/-- 'telemeterlaw18.DedupOnce', WHERE WHAT IT READS IS OF BULK AT MOST 1048576: true; the input reads as it did. -/
def dedupOnceUptoRow : OpenClaim := { program := "ytaldaaihkpckoaa", sum := "425c547b6c0ef650fd76519540cfe36dc0f8d69a6f04d01e9f49d388c229b89c", func := "telemeter/telemeterlaw18.DedupOnce", spec := "dedupOnce", inPlace := ["slices.overlaps[int]"], apart := false, narrowed := true }
def DedupOnceUptoSaid : Prop := dedupOnceUptoRow.holds Try.pinned (OpenSpec.upto dedupOnceSpec)

/-- 'telemeterlaw18.DedupAll', WHERE WHAT IT READS IS OF BULK AT MOST 1048576: true; the input reads as it did. -/
def dedupAllUptoRow : OpenClaim := { program := "ytaldaaihkpckoaa", sum := "425c547b6c0ef650fd76519540cfe36dc0f8d69a6f04d01e9f49d388c229b89c", func := "telemeter/telemeterlaw18.DedupAll", spec := "dedupAll", inPlace := ["slices.overlaps[int]"], apart := false, narrowed := true }
def DedupAllUptoSaid : Prop := dedupAllUptoRow.holds Try.pinned (OpenSpec.upto dedupAllSpec)

/-- 'telemeterlaw18.DedupRoom', WHERE WHAT IT READS IS OF BULK AT MOST 1048576: true; the input reads as it did. -/
def dedupRoomUptoRow : OpenClaim := { program := "ytaldaaihkpckoaa", sum := "425c547b6c0ef650fd76519540cfe36dc0f8d69a6f04d01e9f49d388c229b89c", func := "telemeter/telemeterlaw18.DedupRoom", spec := "dedupRoom", inPlace := ["slices.overlaps[int]"], apart := false, narrowed := true }
def DedupRoomUptoSaid : Prop := dedupRoomUptoRow.holds Try.pinned (OpenSpec.upto dedupRoomSpec)

end Rows
end Go.Proofs.Ytaldaaihkpckoaa
