/-
  No cell of these rows narrows 'for every input' (looked for: loops, veiled, ifaces, maps, wideKeys, modest, calm, conditions, laid).
  DERIVED. THE GIVEN ROWS OF THIS SEAT. 12 by the template 'for every input the law returns true; each argument reads behind the call as it read before'; 0 by the template 'total and deterministic' (their statements: YtcppnmogdmpdbaaTotals.lean).
  GIVEN WITH THE SEED: the statements are not yours to turn. If you find one false, say at which input.
  Laid BY PROGRAM, IN A SANDBOX (cutbox-rows.mjs): the forced cells as the released guide's own fill.sh prints them over the translation b99fd3d5dcea76e9… (all of the seat's roots in one cut). By AI agents, Wed Nov 11 2026. No macro, syntax, notation, axiom, sorry.
-/
import Derived.Test.YtcppnmogdmpdbaaChecked
import GoSem.Claim
import GoSem.ClaimJoined
import GoSem.ClaimMapViews
import Derived.JoinedTies
import Derived.KernelRfl
namespace Go.Proofs.Ytcppnmogdmpdbaa
/- THE CELL 'sum', in the pinned program and in every row, IS THE sha256 OF THE DUMP (.gsa) THAT YtcppnmogdmpdbaaProg.lean LOADS. Nothing in Lean hashes anything: it is a label: what it is worth is what the hold of that sum in a sandbox is worth. -/
noncomputable def Try.pinned : Pinned := { name := "ytcppnmogdmpdbaa", sum := "b99fd3d5dcea76e989899e3440e0324973a916be70a216ed10e2a6d4c12dc1e0", checked := Try.checked }
namespace Rows
def none {H : Type} : Left H := { results := [], args := [] }

/-- 'telemeterlaw10.HeapSorts': WHATEVER THE INPUT: true; the input reads as it did. -/
def heapSortsSpec : ChangeSpec := { name := "heapSorts", fn := fun _ => fun
  | [d1, d2] => { results := [.lit (.bool true)], args := [d1, d2] }
  | _ => none }
def heapSortsRow : OpenClaim := { program := "ytcppnmogdmpdbaa", sum := "b99fd3d5dcea76e989899e3440e0324973a916be70a216ed10e2a6d4c12dc1e0", func := "telemeter/telemeterlaw10.HeapSorts", spec := "heapSorts", unfollowed := true, recurses := true, plainKeys := false, apart := false }
def HeapSortsSaid : Prop := heapSortsRow.holds Try.pinned (OpenSpec.ofChange heapSortsSpec)

/-- ITS FALSE NEIGHBOUR: 'it returns false'. Refute it at one input. -/
def heapSortsWrong : ChangeSpec := { name := "heapSorts", fn := fun _ => fun
  | [d1, d2] => { results := [.lit (.bool false)], args := [d1, d2] }
  | _ => none }
def HeapSortsWrongFalsely : Prop := heapSortsRow.holds Try.pinned (OpenSpec.ofChange heapSortsWrong)

/-- 'telemeterlaw10.HeapDrop': WHATEVER THE INPUT: true; the input reads as it did. -/
def heapDropSpec : ChangeSpec := { name := "heapDrop", fn := fun _ => fun
  | [d1, d2] => { results := [.lit (.bool true)], args := [d1, d2] }
  | _ => none }
def heapDropRow : OpenClaim := { program := "ytcppnmogdmpdbaa", sum := "b99fd3d5dcea76e989899e3440e0324973a916be70a216ed10e2a6d4c12dc1e0", func := "telemeter/telemeterlaw10.HeapDrop", spec := "heapDrop", unfollowed := true, recurses := true, plainKeys := false, apart := false }
def HeapDropSaid : Prop := heapDropRow.holds Try.pinned (OpenSpec.ofChange heapDropSpec)

/-- ITS FALSE NEIGHBOUR: 'it returns false'. Refute it at one input. -/
def heapDropWrong : ChangeSpec := { name := "heapDrop", fn := fun _ => fun
  | [d1, d2] => { results := [.lit (.bool false)], args := [d1, d2] }
  | _ => none }
def HeapDropWrongFalsely : Prop := heapDropRow.holds Try.pinned (OpenSpec.ofChange heapDropWrong)

/-- 'telemeterlaw10.HeapFull': WHATEVER THE INPUT: true; the input reads as it did. -/
def heapFullSpec : ChangeSpec := { name := "heapFull", fn := fun _ => fun
  | [d1, d2] => { results := [.lit (.bool true)], args := [d1, d2] }
  | _ => none }
def heapFullRow : OpenClaim := { program := "ytcppnmogdmpdbaa", sum := "b99fd3d5dcea76e989899e3440e0324973a916be70a216ed10e2a6d4c12dc1e0", func := "telemeter/telemeterlaw10.HeapFull", spec := "heapFull", unfollowed := true, recurses := true, plainKeys := false, apart := false }
def HeapFullSaid : Prop := heapFullRow.holds Try.pinned (OpenSpec.ofChange heapFullSpec)

/-- ITS FALSE NEIGHBOUR: 'it returns false'. Refute it at one input. -/
def heapFullWrong : ChangeSpec := { name := "heapFull", fn := fun _ => fun
  | [d1, d2] => { results := [.lit (.bool false)], args := [d1, d2] }
  | _ => none }
def HeapFullWrongFalsely : Prop := heapFullRow.holds Try.pinned (OpenSpec.ofChange heapFullWrong)

/-- 'telemeterlaw10.HeapDue': WHATEVER THE INPUT: true; the input reads as it did. -/
def heapDueSpec : ChangeSpec := { name := "heapDue", fn := fun _ => fun
  | [d1, d2] => { results := [.lit (.bool true)], args := [d1, d2] }
  | _ => none }
def heapDueRow : OpenClaim := { program := "ytcppnmogdmpdbaa", sum := "b99fd3d5dcea76e989899e3440e0324973a916be70a216ed10e2a6d4c12dc1e0", func := "telemeter/telemeterlaw10.HeapDue", spec := "heapDue", unfollowed := true, recurses := true, plainKeys := false, apart := false }
def HeapDueSaid : Prop := heapDueRow.holds Try.pinned (OpenSpec.ofChange heapDueSpec)

/-- ITS FALSE NEIGHBOUR: 'it returns false'. Refute it at one input. -/
def heapDueWrong : ChangeSpec := { name := "heapDue", fn := fun _ => fun
  | [d1, d2] => { results := [.lit (.bool false)], args := [d1, d2] }
  | _ => none }
def HeapDueWrongFalsely : Prop := heapDueRow.holds Try.pinned (OpenSpec.ofChange heapDueWrong)

/-- 'telemeterlaw10.HeapDoes': WHATEVER THE INPUT: true; the input reads as it did. -/
def heapDoesSpec : ChangeSpec := { name := "heapDoes", fn := fun _ => fun
  | [d1, d2, d3, d4] => { results := [.lit (.bool true)], args := [d1, d2, d3, d4] }
  | _ => none }
def heapDoesRow : OpenClaim := { program := "ytcppnmogdmpdbaa", sum := "b99fd3d5dcea76e989899e3440e0324973a916be70a216ed10e2a6d4c12dc1e0", func := "telemeter/telemeterlaw10.HeapDoes", spec := "heapDoes", unfollowed := true, recurses := true, plainKeys := false, apart := false }
def HeapDoesSaid : Prop := heapDoesRow.holds Try.pinned (OpenSpec.ofChange heapDoesSpec)

/-- ITS FALSE NEIGHBOUR: 'it returns false'. Refute it at one input. -/
def heapDoesWrong : ChangeSpec := { name := "heapDoes", fn := fun _ => fun
  | [d1, d2, d3, d4] => { results := [.lit (.bool false)], args := [d1, d2, d3, d4] }
  | _ => none }
def HeapDoesWrongFalsely : Prop := heapDoesRow.holds Try.pinned (OpenSpec.ofChange heapDoesWrong)

/-- 'telemeterlaw13.TailOrder': WHATEVER THE INPUT: true; the input reads as it did. -/
def tailOrderSpec : ChangeSpec := { name := "tailOrder", fn := fun _ => fun
  | [d1, d2] => { results := [.lit (.bool true)], args := [d1, d2] }
  | _ => none }
def tailOrderRow : OpenClaim := { program := "ytcppnmogdmpdbaa", sum := "b99fd3d5dcea76e989899e3440e0324973a916be70a216ed10e2a6d4c12dc1e0", func := "telemeter/telemeterlaw13.TailOrder", spec := "tailOrder", unfollowed := true, recurses := true, plainKeys := false, apart := false }
def TailOrderSaid : Prop := tailOrderRow.holds Try.pinned (OpenSpec.ofChange tailOrderSpec)

/-- ITS FALSE NEIGHBOUR: 'it returns false'. Refute it at one input. -/
def tailOrderWrong : ChangeSpec := { name := "tailOrder", fn := fun _ => fun
  | [d1, d2] => { results := [.lit (.bool false)], args := [d1, d2] }
  | _ => none }
def TailOrderWrongFalsely : Prop := tailOrderRow.holds Try.pinned (OpenSpec.ofChange tailOrderWrong)

/-- 'telemeterlaw13.TailOnce': WHATEVER THE INPUT: true; the input reads as it did. -/
def tailOnceSpec : ChangeSpec := { name := "tailOnce", fn := fun _ => fun
  | [d1, d2, d3] => { results := [.lit (.bool true)], args := [d1, d2, d3] }
  | _ => none }
def tailOnceRow : OpenClaim := { program := "ytcppnmogdmpdbaa", sum := "b99fd3d5dcea76e989899e3440e0324973a916be70a216ed10e2a6d4c12dc1e0", func := "telemeter/telemeterlaw13.TailOnce", spec := "tailOnce", unfollowed := true, recurses := true, plainKeys := false, apart := false }
def TailOnceSaid : Prop := tailOnceRow.holds Try.pinned (OpenSpec.ofChange tailOnceSpec)

/-- ITS FALSE NEIGHBOUR: 'it returns false'. Refute it at one input. -/
def tailOnceWrong : ChangeSpec := { name := "tailOnce", fn := fun _ => fun
  | [d1, d2, d3] => { results := [.lit (.bool false)], args := [d1, d2, d3] }
  | _ => none }
def TailOnceWrongFalsely : Prop := tailOnceRow.holds Try.pinned (OpenSpec.ofChange tailOnceWrong)

/-- 'telemeterlaw13.TailRoom': WHATEVER THE INPUT: true; the input reads as it did. -/
def tailRoomSpec : ChangeSpec := { name := "tailRoom", fn := fun _ => fun
  | [d1, d2] => { results := [.lit (.bool true)], args := [d1, d2] }
  | _ => none }
def tailRoomRow : OpenClaim := { program := "ytcppnmogdmpdbaa", sum := "b99fd3d5dcea76e989899e3440e0324973a916be70a216ed10e2a6d4c12dc1e0", func := "telemeter/telemeterlaw13.TailRoom", spec := "tailRoom", unfollowed := true, recurses := true, plainKeys := false, apart := false }
def TailRoomSaid : Prop := tailRoomRow.holds Try.pinned (OpenSpec.ofChange tailRoomSpec)

/-- ITS FALSE NEIGHBOUR: 'it returns false'. Refute it at one input. -/
def tailRoomWrong : ChangeSpec := { name := "tailRoom", fn := fun _ => fun
  | [d1, d2] => { results := [.lit (.bool false)], args := [d1, d2] }
  | _ => none }
def TailRoomWrongFalsely : Prop := tailRoomRow.holds Try.pinned (OpenSpec.ofChange tailRoomWrong)

/-- 'telemeterlaw13.TailWaits': WHATEVER THE INPUT: true; the input reads as it did. -/
def tailWaitsSpec : ChangeSpec := { name := "tailWaits", fn := fun _ => fun
  | [d1, d2] => { results := [.lit (.bool true)], args := [d1, d2] }
  | _ => none }
def tailWaitsRow : OpenClaim := { program := "ytcppnmogdmpdbaa", sum := "b99fd3d5dcea76e989899e3440e0324973a916be70a216ed10e2a6d4c12dc1e0", func := "telemeter/telemeterlaw13.TailWaits", spec := "tailWaits", unfollowed := true, recurses := true, plainKeys := false, apart := false }
def TailWaitsSaid : Prop := tailWaitsRow.holds Try.pinned (OpenSpec.ofChange tailWaitsSpec)

/-- ITS FALSE NEIGHBOUR: 'it returns false'. Refute it at one input. -/
def tailWaitsWrong : ChangeSpec := { name := "tailWaits", fn := fun _ => fun
  | [d1, d2] => { results := [.lit (.bool false)], args := [d1, d2] }
  | _ => none }
def TailWaitsWrongFalsely : Prop := tailWaitsRow.holds Try.pinned (OpenSpec.ofChange tailWaitsWrong)

/-- 'telemeterlaw13.TailTold': WHATEVER THE INPUT: true; the input reads as it did. -/
def tailToldSpec : ChangeSpec := { name := "tailTold", fn := fun _ => fun
  | [d1, d2] => { results := [.lit (.bool true)], args := [d1, d2] }
  | _ => none }
def tailToldRow : OpenClaim := { program := "ytcppnmogdmpdbaa", sum := "b99fd3d5dcea76e989899e3440e0324973a916be70a216ed10e2a6d4c12dc1e0", func := "telemeter/telemeterlaw13.TailTold", spec := "tailTold", unfollowed := true, recurses := true, plainKeys := false, apart := false }
def TailToldSaid : Prop := tailToldRow.holds Try.pinned (OpenSpec.ofChange tailToldSpec)

/-- ITS FALSE NEIGHBOUR: 'it returns false'. Refute it at one input. -/
def tailToldWrong : ChangeSpec := { name := "tailTold", fn := fun _ => fun
  | [d1, d2] => { results := [.lit (.bool false)], args := [d1, d2] }
  | _ => none }
def TailToldWrongFalsely : Prop := tailToldRow.holds Try.pinned (OpenSpec.ofChange tailToldWrong)

/-- 'telemeterlaw13.TailKnows': WHATEVER THE INPUT: true; the input reads as it did. -/
def tailKnowsSpec : ChangeSpec := { name := "tailKnows", fn := fun _ => fun
  | [d1, d2] => { results := [.lit (.bool true)], args := [d1, d2] }
  | _ => none }
def tailKnowsRow : OpenClaim := { program := "ytcppnmogdmpdbaa", sum := "b99fd3d5dcea76e989899e3440e0324973a916be70a216ed10e2a6d4c12dc1e0", func := "telemeter/telemeterlaw13.TailKnows", spec := "tailKnows", unfollowed := true, recurses := true, plainKeys := false, apart := false }
def TailKnowsSaid : Prop := tailKnowsRow.holds Try.pinned (OpenSpec.ofChange tailKnowsSpec)

/-- ITS FALSE NEIGHBOUR: 'it returns false'. Refute it at one input. -/
def tailKnowsWrong : ChangeSpec := { name := "tailKnows", fn := fun _ => fun
  | [d1, d2] => { results := [.lit (.bool false)], args := [d1, d2] }
  | _ => none }
def TailKnowsWrongFalsely : Prop := tailKnowsRow.holds Try.pinned (OpenSpec.ofChange tailKnowsWrong)

/-- 'telemeterlaw13.TailDoes': WHATEVER THE INPUT: true; the input reads as it did. -/
def tailDoesSpec : ChangeSpec := { name := "tailDoes", fn := fun _ => fun
  | [d1, d2, d3, d4, d5] => { results := [.lit (.bool true)], args := [d1, d2, d3, d4, d5] }
  | _ => none }
def tailDoesRow : OpenClaim := { program := "ytcppnmogdmpdbaa", sum := "b99fd3d5dcea76e989899e3440e0324973a916be70a216ed10e2a6d4c12dc1e0", func := "telemeter/telemeterlaw13.TailDoes", spec := "tailDoes", unfollowed := true, recurses := true, plainKeys := false, apart := false }
def TailDoesSaid : Prop := tailDoesRow.holds Try.pinned (OpenSpec.ofChange tailDoesSpec)

/-- ITS FALSE NEIGHBOUR: 'it returns false'. Refute it at one input. -/
def tailDoesWrong : ChangeSpec := { name := "tailDoes", fn := fun _ => fun
  | [d1, d2, d3, d4, d5] => { results := [.lit (.bool false)], args := [d1, d2, d3, d4, d5] }
  | _ => none }
def TailDoesWrongFalsely : Prop := tailDoesRow.holds Try.pinned (OpenSpec.ofChange tailDoesWrong)

/- THE SECOND FORM. 'bulk': how many values and letters a reading holds, each counted each time it is reached (what is shared counts as often as it is met; a slice's spare places count too). A statement '..UptoSaid' is the law's where the arguments, and the package variables that the reading takes, are together of bulk at most 1048576: NARROWER than '..Said'. Prove '..Said' where nothing that the law and all that it calls make is longer than what came in: it says more and counts as full. Else prove '..UptoSaid'. A law counts once. -/
mutual
def uptoBulk {H : Type} : DataW H → Nat
  | .lit (.string bytes) => bytes.length + 1
  | .lit _ => 1
  | .nil => 1
  | .ptr d => uptoBulk d + 1
  | .slice elems spare => uptoBulkAll elems + uptoBulkAll spare + 1
  | .agg parts => uptoBulkAll parts + 1
  | .iface _ d => uptoBulk d + 1
  | .map entries => uptoBulkEntries entries + 1
  | .held _ => 1
def uptoBulkAll {H : Type} : List (DataW H) → Nat
  | [] => 0
  | d :: r => uptoBulk d + uptoBulkAll r
def uptoBulkEntries {H : Type} : List (Lit × DataW H) → Nat
  | [] => 0
  | x :: r => uptoBulkEntry x + uptoBulkEntries r
def uptoBulkEntry {H : Type} : Lit × DataW H → Nat
  | (.string bytes, d) => bytes.length + uptoBulk d + 1
  | (_, d) => uptoBulk d + 1
 end
def uptoSmall : (H : Type) → List (DataW H) → Bool := fun _ ds => decide (uptoBulkAll ds ≤ 1048576)
def OpenSpec.upto (s : _root_.Go.ChangeSpec) : _root_.Go.OpenSpec := { _root_.Go.OpenSpec.ofChange s with cond := some uptoSmall }

/-- 'telemeterlaw10.HeapSorts', WHERE WHAT IT READS IS OF BULK AT MOST 1048576: true; the input reads as it did. -/
def heapSortsUptoRow : OpenClaim := { program := "ytcppnmogdmpdbaa", sum := "b99fd3d5dcea76e989899e3440e0324973a916be70a216ed10e2a6d4c12dc1e0", func := "telemeter/telemeterlaw10.HeapSorts", spec := "heapSorts", unfollowed := true, recurses := true, plainKeys := false, apart := false, narrowed := true }
def HeapSortsUptoSaid : Prop := heapSortsUptoRow.holds Try.pinned (OpenSpec.upto heapSortsSpec)

/-- 'telemeterlaw10.HeapDrop', WHERE WHAT IT READS IS OF BULK AT MOST 1048576: true; the input reads as it did. -/
def heapDropUptoRow : OpenClaim := { program := "ytcppnmogdmpdbaa", sum := "b99fd3d5dcea76e989899e3440e0324973a916be70a216ed10e2a6d4c12dc1e0", func := "telemeter/telemeterlaw10.HeapDrop", spec := "heapDrop", unfollowed := true, recurses := true, plainKeys := false, apart := false, narrowed := true }
def HeapDropUptoSaid : Prop := heapDropUptoRow.holds Try.pinned (OpenSpec.upto heapDropSpec)

/-- 'telemeterlaw10.HeapFull', WHERE WHAT IT READS IS OF BULK AT MOST 1048576: true; the input reads as it did. -/
def heapFullUptoRow : OpenClaim := { program := "ytcppnmogdmpdbaa", sum := "b99fd3d5dcea76e989899e3440e0324973a916be70a216ed10e2a6d4c12dc1e0", func := "telemeter/telemeterlaw10.HeapFull", spec := "heapFull", unfollowed := true, recurses := true, plainKeys := false, apart := false, narrowed := true }
def HeapFullUptoSaid : Prop := heapFullUptoRow.holds Try.pinned (OpenSpec.upto heapFullSpec)

/-- 'telemeterlaw10.HeapDue', WHERE WHAT IT READS IS OF BULK AT MOST 1048576: true; the input reads as it did. -/
def heapDueUptoRow : OpenClaim := { program := "ytcppnmogdmpdbaa", sum := "b99fd3d5dcea76e989899e3440e0324973a916be70a216ed10e2a6d4c12dc1e0", func := "telemeter/telemeterlaw10.HeapDue", spec := "heapDue", unfollowed := true, recurses := true, plainKeys := false, apart := false, narrowed := true }
def HeapDueUptoSaid : Prop := heapDueUptoRow.holds Try.pinned (OpenSpec.upto heapDueSpec)

/-- 'telemeterlaw10.HeapDoes', WHERE WHAT IT READS IS OF BULK AT MOST 1048576: true; the input reads as it did. -/
def heapDoesUptoRow : OpenClaim := { program := "ytcppnmogdmpdbaa", sum := "b99fd3d5dcea76e989899e3440e0324973a916be70a216ed10e2a6d4c12dc1e0", func := "telemeter/telemeterlaw10.HeapDoes", spec := "heapDoes", unfollowed := true, recurses := true, plainKeys := false, apart := false, narrowed := true }
def HeapDoesUptoSaid : Prop := heapDoesUptoRow.holds Try.pinned (OpenSpec.upto heapDoesSpec)

/-- 'telemeterlaw13.TailOrder', WHERE WHAT IT READS IS OF BULK AT MOST 1048576: true; the input reads as it did. -/
def tailOrderUptoRow : OpenClaim := { program := "ytcppnmogdmpdbaa", sum := "b99fd3d5dcea76e989899e3440e0324973a916be70a216ed10e2a6d4c12dc1e0", func := "telemeter/telemeterlaw13.TailOrder", spec := "tailOrder", unfollowed := true, recurses := true, plainKeys := false, apart := false, narrowed := true }
def TailOrderUptoSaid : Prop := tailOrderUptoRow.holds Try.pinned (OpenSpec.upto tailOrderSpec)

/-- 'telemeterlaw13.TailOnce', WHERE WHAT IT READS IS OF BULK AT MOST 1048576: true; the input reads as it did. -/
def tailOnceUptoRow : OpenClaim := { program := "ytcppnmogdmpdbaa", sum := "b99fd3d5dcea76e989899e3440e0324973a916be70a216ed10e2a6d4c12dc1e0", func := "telemeter/telemeterlaw13.TailOnce", spec := "tailOnce", unfollowed := true, recurses := true, plainKeys := false, apart := false, narrowed := true }
def TailOnceUptoSaid : Prop := tailOnceUptoRow.holds Try.pinned (OpenSpec.upto tailOnceSpec)

/-- 'telemeterlaw13.TailRoom', WHERE WHAT IT READS IS OF BULK AT MOST 1048576: true; the input reads as it did. -/
def tailRoomUptoRow : OpenClaim := { program := "ytcppnmogdmpdbaa", sum := "b99fd3d5dcea76e989899e3440e0324973a916be70a216ed10e2a6d4c12dc1e0", func := "telemeter/telemeterlaw13.TailRoom", spec := "tailRoom", unfollowed := true, recurses := true, plainKeys := false, apart := false, narrowed := true }
def TailRoomUptoSaid : Prop := tailRoomUptoRow.holds Try.pinned (OpenSpec.upto tailRoomSpec)

/-- 'telemeterlaw13.TailWaits', WHERE WHAT IT READS IS OF BULK AT MOST 1048576: true; the input reads as it did. -/
def tailWaitsUptoRow : OpenClaim := { program := "ytcppnmogdmpdbaa", sum := "b99fd3d5dcea76e989899e3440e0324973a916be70a216ed10e2a6d4c12dc1e0", func := "telemeter/telemeterlaw13.TailWaits", spec := "tailWaits", unfollowed := true, recurses := true, plainKeys := false, apart := false, narrowed := true }
def TailWaitsUptoSaid : Prop := tailWaitsUptoRow.holds Try.pinned (OpenSpec.upto tailWaitsSpec)

/-- 'telemeterlaw13.TailTold', WHERE WHAT IT READS IS OF BULK AT MOST 1048576: true; the input reads as it did. -/
def tailToldUptoRow : OpenClaim := { program := "ytcppnmogdmpdbaa", sum := "b99fd3d5dcea76e989899e3440e0324973a916be70a216ed10e2a6d4c12dc1e0", func := "telemeter/telemeterlaw13.TailTold", spec := "tailTold", unfollowed := true, recurses := true, plainKeys := false, apart := false, narrowed := true }
def TailToldUptoSaid : Prop := tailToldUptoRow.holds Try.pinned (OpenSpec.upto tailToldSpec)

/-- 'telemeterlaw13.TailKnows', WHERE WHAT IT READS IS OF BULK AT MOST 1048576: true; the input reads as it did. -/
def tailKnowsUptoRow : OpenClaim := { program := "ytcppnmogdmpdbaa", sum := "b99fd3d5dcea76e989899e3440e0324973a916be70a216ed10e2a6d4c12dc1e0", func := "telemeter/telemeterlaw13.TailKnows", spec := "tailKnows", unfollowed := true, recurses := true, plainKeys := false, apart := false, narrowed := true }
def TailKnowsUptoSaid : Prop := tailKnowsUptoRow.holds Try.pinned (OpenSpec.upto tailKnowsSpec)

/-- 'telemeterlaw13.TailDoes', WHERE WHAT IT READS IS OF BULK AT MOST 1048576: true; the input reads as it did. -/
def tailDoesUptoRow : OpenClaim := { program := "ytcppnmogdmpdbaa", sum := "b99fd3d5dcea76e989899e3440e0324973a916be70a216ed10e2a6d4c12dc1e0", func := "telemeter/telemeterlaw13.TailDoes", spec := "tailDoes", unfollowed := true, recurses := true, plainKeys := false, apart := false, narrowed := true }
def TailDoesUptoSaid : Prop := tailDoesUptoRow.holds Try.pinned (OpenSpec.upto tailDoesSpec)

end Rows
end Go.Proofs.Ytcppnmogdmpdbaa
