/-
  No cell of these rows narrows 'for every input' (looked for: loops, veiled, ifaces, maps, wideKeys, modest, calm, conditions, laid).
  DERIVED. THE GIVEN ROWS OF THIS SEAT. 10 by the template 'for every input the law returns true; each argument reads behind the call as it read before'; 0 by the template 'total and deterministic' (their statements: YtmmacbkganjkbaaTotals.lean).
  GIVEN WITH THE SEED: the statements are not yours to turn. If you find one false, say at which input.
  Laid BY PROGRAM, IN A SANDBOX (cutbox-rows.mjs): the forced cells as the released guide's own fill.sh prints them over the translation 54a76bd74a207a52… (all of the seat's roots in one cut). By AI agents, Wed Nov 11 2026. No macro, syntax, notation, axiom, sorry.
-/
import Derived.Test.YtmmacbkganjkbaaChecked
import GoSem.Claim
import GoSem.ClaimJoined
import GoSem.ClaimMapViews
import Derived.JoinedTies
import Derived.KernelRfl
namespace Go.Proofs.Ytmmacbkganjkbaa
/- THE CELL 'sum', in the pinned program and in every row, IS THE sha256 OF THE DUMP (.gsa) THAT YtmmacbkganjkbaaProg.lean LOADS. Nothing in Lean hashes anything: it is a label: what it is worth is what the hold of that sum in a sandbox is worth. -/
noncomputable def Try.pinned : Pinned := { name := "ytmmacbkganjkbaa", sum := "54a76bd74a207a5213a5ddc2d5aedcc11093c8cc28c26b29572103d27b231558", checked := Try.checked }
namespace Rows
def none {H : Type} : Left H := { results := [], args := [] }

/-- 'bonsailaw15.UndoDoes': WHATEVER THE INPUT: true; the input reads as it did. -/
def undoDoesSpec : ChangeSpec := { name := "undoDoes", fn := fun _ => fun
  | [d1, d2, d3] => { results := [.lit (.bool true)], args := [d1, d2, d3] }
  | _ => none }
def undoDoesRow : OpenClaim := { program := "ytmmacbkganjkbaa", sum := "54a76bd74a207a5213a5ddc2d5aedcc11093c8cc28c26b29572103d27b231558", func := "bonsai/bonsailaw15.UndoDoes", spec := "undoDoes", inPlace := ["slices.overlaps[bonsai/api.Row]"], unfollowed := true, recurses := true, apart := false }
def UndoDoesSaid : Prop := undoDoesRow.holds Try.pinned (OpenSpec.ofChange undoDoesSpec)

/-- ITS FALSE NEIGHBOUR: 'it returns false'. Refute it at one input. -/
def undoDoesWrong : ChangeSpec := { name := "undoDoes", fn := fun _ => fun
  | [d1, d2, d3] => { results := [.lit (.bool false)], args := [d1, d2, d3] }
  | _ => none }
def UndoDoesWrongFalsely : Prop := undoDoesRow.holds Try.pinned (OpenSpec.ofChange undoDoesWrong)

/-- 'bonsailaw15.UndoRuns': WHATEVER THE INPUT: true; the input reads as it did. -/
def undoRunsSpec : ChangeSpec := { name := "undoRuns", fn := fun _ => fun
  | [d1, d2, d3] => { results := [.lit (.bool true)], args := [d1, d2, d3] }
  | _ => none }
def undoRunsRow : OpenClaim := { program := "ytmmacbkganjkbaa", sum := "54a76bd74a207a5213a5ddc2d5aedcc11093c8cc28c26b29572103d27b231558", func := "bonsai/bonsailaw15.UndoRuns", spec := "undoRuns", inPlace := ["slices.overlaps[bonsai/api.Row]"], unfollowed := true, recurses := true, apart := false }
def UndoRunsSaid : Prop := undoRunsRow.holds Try.pinned (OpenSpec.ofChange undoRunsSpec)

/-- ITS FALSE NEIGHBOUR: 'it returns false'. Refute it at one input. -/
def undoRunsWrong : ChangeSpec := { name := "undoRuns", fn := fun _ => fun
  | [d1, d2, d3] => { results := [.lit (.bool false)], args := [d1, d2, d3] }
  | _ => none }
def UndoRunsWrongFalsely : Prop := undoRunsRow.holds Try.pinned (OpenSpec.ofChange undoRunsWrong)

/-- 'bonsailaw15.UndoSteps': WHATEVER THE INPUT: true; the input reads as it did. -/
def undoStepsSpec : ChangeSpec := { name := "undoSteps", fn := fun _ => fun
  | [d1, d2] => { results := [.lit (.bool true)], args := [d1, d2] }
  | _ => none }
def undoStepsRow : OpenClaim := { program := "ytmmacbkganjkbaa", sum := "54a76bd74a207a5213a5ddc2d5aedcc11093c8cc28c26b29572103d27b231558", func := "bonsai/bonsailaw15.UndoSteps", spec := "undoSteps", inPlace := ["slices.overlaps[bonsai/api.Row]"], unfollowed := true, recurses := true, apart := false }
def UndoStepsSaid : Prop := undoStepsRow.holds Try.pinned (OpenSpec.ofChange undoStepsSpec)

/-- ITS FALSE NEIGHBOUR: 'it returns false'. Refute it at one input. -/
def undoStepsWrong : ChangeSpec := { name := "undoSteps", fn := fun _ => fun
  | [d1, d2] => { results := [.lit (.bool false)], args := [d1, d2] }
  | _ => none }
def UndoStepsWrongFalsely : Prop := undoStepsRow.holds Try.pinned (OpenSpec.ofChange undoStepsWrong)

/-- 'bonsailaw15.UndoMiddle': WHATEVER THE INPUT: true; the input reads as it did. -/
def undoMiddleSpec : ChangeSpec := { name := "undoMiddle", fn := fun _ => fun
  | [d1, d2, d3] => { results := [.lit (.bool true)], args := [d1, d2, d3] }
  | _ => none }
def undoMiddleRow : OpenClaim := { program := "ytmmacbkganjkbaa", sum := "54a76bd74a207a5213a5ddc2d5aedcc11093c8cc28c26b29572103d27b231558", func := "bonsai/bonsailaw15.UndoMiddle", spec := "undoMiddle", inPlace := ["slices.overlaps[bonsai/api.Row]"], unfollowed := true, recurses := true, apart := false }
def UndoMiddleSaid : Prop := undoMiddleRow.holds Try.pinned (OpenSpec.ofChange undoMiddleSpec)

/-- ITS FALSE NEIGHBOUR: 'it returns false'. Refute it at one input. -/
def undoMiddleWrong : ChangeSpec := { name := "undoMiddle", fn := fun _ => fun
  | [d1, d2, d3] => { results := [.lit (.bool false)], args := [d1, d2, d3] }
  | _ => none }
def UndoMiddleWrongFalsely : Prop := undoMiddleRow.holds Try.pinned (OpenSpec.ofChange undoMiddleWrong)

/-- 'bonsailaw16.ReplayScripts': WHATEVER THE INPUT: true; the input reads as it did. -/
def replayScriptsSpec : ChangeSpec := { name := "replayScripts", fn := fun _ => fun
  | [d1, d2] => { results := [.lit (.bool true)], args := [d1, d2] }
  | _ => none }
def replayScriptsRow : OpenClaim := { program := "ytmmacbkganjkbaa", sum := "54a76bd74a207a5213a5ddc2d5aedcc11093c8cc28c26b29572103d27b231558", func := "bonsai/bonsailaw16.ReplayScripts", spec := "replayScripts", inPlace := ["slices.overlaps[bonsai/api.Move]", "slices.overlaps[bonsai/api.Row]"], unfollowed := true, recurses := true, apart := false }
def ReplayScriptsSaid : Prop := replayScriptsRow.holds Try.pinned (OpenSpec.ofChange replayScriptsSpec)

/-- ITS FALSE NEIGHBOUR: 'it returns false'. Refute it at one input. -/
def replayScriptsWrong : ChangeSpec := { name := "replayScripts", fn := fun _ => fun
  | [d1, d2] => { results := [.lit (.bool false)], args := [d1, d2] }
  | _ => none }
def ReplayScriptsWrongFalsely : Prop := replayScriptsRow.holds Try.pinned (OpenSpec.ofChange replayScriptsWrong)

/-- 'bonsailaw16.ReplayNil': WHATEVER THE INPUT: true; the input reads as it did. -/
def replayNilSpec : ChangeSpec := { name := "replayNil", fn := fun _ => fun
  | [d] => { results := [.lit (.bool true)], args := [d] }
  | _ => none }
def replayNilRow : OpenClaim := { program := "ytmmacbkganjkbaa", sum := "54a76bd74a207a5213a5ddc2d5aedcc11093c8cc28c26b29572103d27b231558", func := "bonsai/bonsailaw16.ReplayNil", spec := "replayNil", inPlace := ["slices.overlaps[bonsai/api.Move]", "slices.overlaps[bonsai/api.Row]"], unfollowed := true, recurses := true, apart := false }
def ReplayNilSaid : Prop := replayNilRow.holds Try.pinned (OpenSpec.ofChange replayNilSpec)

/-- ITS FALSE NEIGHBOUR: 'it returns false'. Refute it at one input. -/
def replayNilWrong : ChangeSpec := { name := "replayNil", fn := fun _ => fun
  | [d] => { results := [.lit (.bool false)], args := [d] }
  | _ => none }
def ReplayNilWrongFalsely : Prop := replayNilRow.holds Try.pinned (OpenSpec.ofChange replayNilWrong)

/-- 'bonsailaw15.UndoBack': WHATEVER THE INPUT: true; the input reads as it did. -/
def undoBackSpec : ChangeSpec := { name := "undoBack", fn := fun _ => fun
  | [d1, d2, d3] => { results := [.lit (.bool true)], args := [d1, d2, d3] }
  | _ => none }
def undoBackRow : OpenClaim := { program := "ytmmacbkganjkbaa", sum := "54a76bd74a207a5213a5ddc2d5aedcc11093c8cc28c26b29572103d27b231558", func := "bonsai/bonsailaw15.UndoBack", spec := "undoBack", inPlace := ["slices.overlaps[bonsai/api.Row]"], unfollowed := true, recurses := true, apart := false }
def UndoBackSaid : Prop := undoBackRow.holds Try.pinned (OpenSpec.ofChange undoBackSpec)

/-- ITS FALSE NEIGHBOUR: 'it returns false'. Refute it at one input. -/
def undoBackWrong : ChangeSpec := { name := "undoBack", fn := fun _ => fun
  | [d1, d2, d3] => { results := [.lit (.bool false)], args := [d1, d2, d3] }
  | _ => none }
def UndoBackWrongFalsely : Prop := undoBackRow.holds Try.pinned (OpenSpec.ofChange undoBackWrong)

/-- 'bonsailaw16.ReplayOrder': WHATEVER THE INPUT: true; the input reads as it did. -/
def replayOrderSpec : ChangeSpec := { name := "replayOrder", fn := fun _ => fun
  | [d1, d2, d3] => { results := [.lit (.bool true)], args := [d1, d2, d3] }
  | _ => none }
def replayOrderRow : OpenClaim := { program := "ytmmacbkganjkbaa", sum := "54a76bd74a207a5213a5ddc2d5aedcc11093c8cc28c26b29572103d27b231558", func := "bonsai/bonsailaw16.ReplayOrder", spec := "replayOrder", inPlace := ["slices.overlaps[bonsai/api.Move]", "slices.overlaps[bonsai/api.Row]"], unfollowed := true, recurses := true, apart := false }
def ReplayOrderSaid : Prop := replayOrderRow.holds Try.pinned (OpenSpec.ofChange replayOrderSpec)

/-- ITS FALSE NEIGHBOUR: 'it returns false'. Refute it at one input. -/
def replayOrderWrong : ChangeSpec := { name := "replayOrder", fn := fun _ => fun
  | [d1, d2, d3] => { results := [.lit (.bool false)], args := [d1, d2, d3] }
  | _ => none }
def ReplayOrderWrongFalsely : Prop := replayOrderRow.holds Try.pinned (OpenSpec.ofChange replayOrderWrong)

/-- 'bonsailaw16.ReplayParts': WHATEVER THE INPUT: true; the input reads as it did. -/
def replayPartsSpec : ChangeSpec := { name := "replayParts", fn := fun _ => fun
  | [d1, d2, d3] => { results := [.lit (.bool true)], args := [d1, d2, d3] }
  | _ => none }
def replayPartsRow : OpenClaim := { program := "ytmmacbkganjkbaa", sum := "54a76bd74a207a5213a5ddc2d5aedcc11093c8cc28c26b29572103d27b231558", func := "bonsai/bonsailaw16.ReplayParts", spec := "replayParts", inPlace := ["slices.overlaps[bonsai/api.Move]", "slices.overlaps[bonsai/api.Row]"], unfollowed := true, recurses := true, apart := false }
def ReplayPartsSaid : Prop := replayPartsRow.holds Try.pinned (OpenSpec.ofChange replayPartsSpec)

/-- ITS FALSE NEIGHBOUR: 'it returns false'. Refute it at one input. -/
def replayPartsWrong : ChangeSpec := { name := "replayParts", fn := fun _ => fun
  | [d1, d2, d3] => { results := [.lit (.bool false)], args := [d1, d2, d3] }
  | _ => none }
def ReplayPartsWrongFalsely : Prop := replayPartsRow.holds Try.pinned (OpenSpec.ofChange replayPartsWrong)

/-- 'bonsailaw16.ReplayTells': WHATEVER THE INPUT: true; the input reads as it did. -/
def replayTellsSpec : ChangeSpec := { name := "replayTells", fn := fun _ => fun
  | [d1, d2, d3] => { results := [.lit (.bool true)], args := [d1, d2, d3] }
  | _ => none }
def replayTellsRow : OpenClaim := { program := "ytmmacbkganjkbaa", sum := "54a76bd74a207a5213a5ddc2d5aedcc11093c8cc28c26b29572103d27b231558", func := "bonsai/bonsailaw16.ReplayTells", spec := "replayTells", inPlace := ["slices.overlaps[bonsai/api.Move]", "slices.overlaps[bonsai/api.Row]"], unfollowed := true, recurses := true, apart := false }
def ReplayTellsSaid : Prop := replayTellsRow.holds Try.pinned (OpenSpec.ofChange replayTellsSpec)

/-- ITS FALSE NEIGHBOUR: 'it returns false'. Refute it at one input. -/
def replayTellsWrong : ChangeSpec := { name := "replayTells", fn := fun _ => fun
  | [d1, d2, d3] => { results := [.lit (.bool false)], args := [d1, d2, d3] }
  | _ => none }
def ReplayTellsWrongFalsely : Prop := replayTellsRow.holds Try.pinned (OpenSpec.ofChange replayTellsWrong)

/- THE SECOND FORM. 'bulk': how many values and letters a reading holds, each counted each time it is reached (what is shared counts as often as it is met; a slice's spare places count too). A statement '..UptoSaid' is the law's where the arguments, and the package variables that the reading takes, are together of bulk at most 1048576: NARROWER than '..Said'. Prove '..Said' where nothing that the law and all that it calls make is longer than what came in: it says more and counts as full. Else prove '..UptoSaid'. A law counts once. -/
mutual
def uptoBulk {H : Type} : DataW H → Nat
  | .lit (.string bytes) => bytes.length + 1
  | .lit _ => 1
  | .nil => 1
  | .ptr d => uptoBulk d + 1
  | .slice elems spare => uptoBulkAll elems + uptoBulkAll spare + 1
  | .agg parts => uptoBulkAll parts + 1
  | .iface _ d => uptoBulk d + 1
  | .map entries => uptoBulkEntries entries + 1
  | .held _ => 1
def uptoBulkAll {H : Type} : List (DataW H) → Nat
  | [] => 0
  | d :: r => uptoBulk d + uptoBulkAll r
def uptoBulkEntries {H : Type} : List (Lit × DataW H) → Nat
  | [] => 0
  | x :: r => uptoBulkEntry x + uptoBulkEntries r
def uptoBulkEntry {H : Type} : Lit × DataW H → Nat
  | (.string bytes, d) => bytes.length + uptoBulk d + 1
  | (_, d) => uptoBulk d + 1
 end
def uptoSmall : (H : Type) → List (DataW H) → Bool := fun _ ds => decide (uptoBulkAll ds ≤ 1048576)
def OpenSpec.upto (s : _root_.Go.ChangeSpec) : _root_.Go.OpenSpec := { _root_.Go.OpenSpec.ofChange s with cond := some uptoSmall }

/-- 'bonsailaw15.UndoDoes', WHERE WHAT IT READS IS OF BULK AT MOST 1048576: true; the input reads as it did. -/
def undoDoesUptoRow : OpenClaim := { program := "ytmmacbkganjkbaa", sum := "54a76bd74a207a5213a5ddc2d5aedcc11093c8cc28c26b29572103d27b231558", func := "bonsai/bonsailaw15.UndoDoes", spec := "undoDoes", inPlace := ["slices.overlaps[bonsai/api.Row]"], unfollowed := true, recurses := true, apart := false, narrowed := true }
def UndoDoesUptoSaid : Prop := undoDoesUptoRow.holds Try.pinned (OpenSpec.upto undoDoesSpec)

/-- 'bonsailaw15.UndoRuns', WHERE WHAT IT READS IS OF BULK AT MOST 1048576: true; the input reads as it did. -/
def undoRunsUptoRow : OpenClaim := { program := "ytmmacbkganjkbaa", sum := "54a76bd74a207a5213a5ddc2d5aedcc11093c8cc28c26b29572103d27b231558", func := "bonsai/bonsailaw15.UndoRuns", spec := "undoRuns", inPlace := ["slices.overlaps[bonsai/api.Row]"], unfollowed := true, recurses := true, apart := false, narrowed := true }
def UndoRunsUptoSaid : Prop := undoRunsUptoRow.holds Try.pinned (OpenSpec.upto undoRunsSpec)

/-- 'bonsailaw15.UndoSteps', WHERE WHAT IT READS IS OF BULK AT MOST 1048576: true; the input reads as it did. -/
def undoStepsUptoRow : OpenClaim := { program := "ytmmacbkganjkbaa", sum := "54a76bd74a207a5213a5ddc2d5aedcc11093c8cc28c26b29572103d27b231558", func := "bonsai/bonsailaw15.UndoSteps", spec := "undoSteps", inPlace := ["slices.overlaps[bonsai/api.Row]"], unfollowed := true, recurses := true, apart := false, narrowed := true }
def UndoStepsUptoSaid : Prop := undoStepsUptoRow.holds Try.pinned (OpenSpec.upto undoStepsSpec)

/-- 'bonsailaw15.UndoMiddle', WHERE WHAT IT READS IS OF BULK AT MOST 1048576: true; the input reads as it did. -/
def undoMiddleUptoRow : OpenClaim := { program := "ytmmacbkganjkbaa", sum := "54a76bd74a207a5213a5ddc2d5aedcc11093c8cc28c26b29572103d27b231558", func := "bonsai/bonsailaw15.UndoMiddle", spec := "undoMiddle", inPlace := ["slices.overlaps[bonsai/api.Row]"], unfollowed := true, recurses := true, apart := false, narrowed := true }
def UndoMiddleUptoSaid : Prop := undoMiddleUptoRow.holds Try.pinned (OpenSpec.upto undoMiddleSpec)

/-- 'bonsailaw16.ReplayScripts', WHERE WHAT IT READS IS OF BULK AT MOST 1048576: true; the input reads as it did. -/
def replayScriptsUptoRow : OpenClaim := { program := "ytmmacbkganjkbaa", sum := "54a76bd74a207a5213a5ddc2d5aedcc11093c8cc28c26b29572103d27b231558", func := "bonsai/bonsailaw16.ReplayScripts", spec := "replayScripts", inPlace := ["slices.overlaps[bonsai/api.Move]", "slices.overlaps[bonsai/api.Row]"], unfollowed := true, recurses := true, apart := false, narrowed := true }
def ReplayScriptsUptoSaid : Prop := replayScriptsUptoRow.holds Try.pinned (OpenSpec.upto replayScriptsSpec)

/-- 'bonsailaw16.ReplayNil', WHERE WHAT IT READS IS OF BULK AT MOST 1048576: true; the input reads as it did. -/
def replayNilUptoRow : OpenClaim := { program := "ytmmacbkganjkbaa", sum := "54a76bd74a207a5213a5ddc2d5aedcc11093c8cc28c26b29572103d27b231558", func := "bonsai/bonsailaw16.ReplayNil", spec := "replayNil", inPlace := ["slices.overlaps[bonsai/api.Move]", "slices.overlaps[bonsai/api.Row]"], unfollowed := true, recurses := true, apart := false, narrowed := true }
def ReplayNilUptoSaid : Prop := replayNilUptoRow.holds Try.pinned (OpenSpec.upto replayNilSpec)

/-- 'bonsailaw15.UndoBack', WHERE WHAT IT READS IS OF BULK AT MOST 1048576: true; the input reads as it did. -/
def undoBackUptoRow : OpenClaim := { program := "ytmmacbkganjkbaa", sum := "54a76bd74a207a5213a5ddc2d5aedcc11093c8cc28c26b29572103d27b231558", func := "bonsai/bonsailaw15.UndoBack", spec := "undoBack", inPlace := ["slices.overlaps[bonsai/api.Row]"], unfollowed := true, recurses := true, apart := false, narrowed := true }
def UndoBackUptoSaid : Prop := undoBackUptoRow.holds Try.pinned (OpenSpec.upto undoBackSpec)

/-- 'bonsailaw16.ReplayOrder', WHERE WHAT IT READS IS OF BULK AT MOST 1048576: true; the input reads as it did. -/
def replayOrderUptoRow : OpenClaim := { program := "ytmmacbkganjkbaa", sum := "54a76bd74a207a5213a5ddc2d5aedcc11093c8cc28c26b29572103d27b231558", func := "bonsai/bonsailaw16.ReplayOrder", spec := "replayOrder", inPlace := ["slices.overlaps[bonsai/api.Move]", "slices.overlaps[bonsai/api.Row]"], unfollowed := true, recurses := true, apart := false, narrowed := true }
def ReplayOrderUptoSaid : Prop := replayOrderUptoRow.holds Try.pinned (OpenSpec.upto replayOrderSpec)

/-- 'bonsailaw16.ReplayParts', WHERE WHAT IT READS IS OF BULK AT MOST 1048576: true; the input reads as it did. -/
def replayPartsUptoRow : OpenClaim := { program := "ytmmacbkganjkbaa", sum := "54a76bd74a207a5213a5ddc2d5aedcc11093c8cc28c26b29572103d27b231558", func := "bonsai/bonsailaw16.ReplayParts", spec := "replayParts", inPlace := ["slices.overlaps[bonsai/api.Move]", "slices.overlaps[bonsai/api.Row]"], unfollowed := true, recurses := true, apart := false, narrowed := true }
def ReplayPartsUptoSaid : Prop := replayPartsUptoRow.holds Try.pinned (OpenSpec.upto replayPartsSpec)

/-- 'bonsailaw16.ReplayTells', WHERE WHAT IT READS IS OF BULK AT MOST 1048576: true; the input reads as it did. -/
def replayTellsUptoRow : OpenClaim := { program := "ytmmacbkganjkbaa", sum := "54a76bd74a207a5213a5ddc2d5aedcc11093c8cc28c26b29572103d27b231558", func := "bonsai/bonsailaw16.ReplayTells", spec := "replayTells", inPlace := ["slices.overlaps[bonsai/api.Move]", "slices.overlaps[bonsai/api.Row]"], unfollowed := true, recurses := true, apart := false, narrowed := true }
def ReplayTellsUptoSaid : Prop := replayTellsUptoRow.holds Try.pinned (OpenSpec.upto replayTellsSpec)

end Rows
end Go.Proofs.Ytmmacbkganjkbaa
