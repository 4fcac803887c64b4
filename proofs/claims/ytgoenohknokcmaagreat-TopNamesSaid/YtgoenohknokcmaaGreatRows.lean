/-
  No cell of these rows narrows 'for every input' (looked for: loops, veiled, ifaces, maps, wideKeys, modest, calm, conditions, laid).
  DERIVED. THE GIVEN ROWS OF THIS SEAT. 5 by the template 'for every input the law returns true; each argument reads behind the call as it read before'; 0 by the template 'total and deterministic' (their statements: YtgoenohknokcmaaGreatTotals.lean).
  GIVEN WITH THE SEED: the statements are not yours to turn. If you find one false, say at which input.
  Laid BY PROGRAM, IN A SANDBOX (cutbox-rows.mjs): the forced cells as the released guide's own fill.sh prints them over the translation 203be6fc7888dc50… (all of the seat's roots in one cut). By AI agents, Wed Nov 11 2026. No macro, syntax, notation, axiom, sorry.
-/
import Derived.Test.YtgoenohknokcmaaGreatChecked
import GoSem.Claim
import GoSem.ClaimJoined
import GoSem.ClaimMapViews
import Derived.JoinedTies
import Derived.KernelRfl
namespace Go.Proofs.YtgoenohknokcmaaGreat
/- THE CELL 'sum', in the pinned program and in every row, IS THE sha256 OF THE DUMP (.gsa) THAT YtgoenohknokcmaaGreatProg.lean LOADS. Nothing in Lean hashes anything: it is a label: what it is worth is what the hold of that sum in a sandbox is worth. -/
noncomputable def Tryz.pinned : Pinned := { name := "ytgoenohknokcmaagreat", sum := "203be6fc7888dc5023ee3bc1e23f209322bfa28b3c9635e7c2f57cbecf138cc8", checked := Tryz.checked }
namespace Rows
def none {H : Type} : Left H := { results := [], args := [] }

/-- 'bonsaitop.TopFold': WHATEVER THE INPUT: true; the input reads as it did. -/
def topFoldSpec : ChangeSpec := { name := "topFold", fn := fun _ => fun
  | [d1, d2] => { results := [.lit (.bool true)], args := [d1, d2] }
  | _ => none }
def topFoldRow : OpenClaim := { program := "ytgoenohknokcmaagreat", sum := "203be6fc7888dc5023ee3bc1e23f209322bfa28b3c9635e7c2f57cbecf138cc8", func := "bonsai/bonsaitop.TopFold", spec := "topFold", inPlace := ["slices.overlaps[bonsai/api.Mark]", "slices.overlaps[bonsai/api.Move]", "slices.overlaps[bonsai/api.Row]", "internal/abi.NoEscape"], unfollowed := true, recurses := true, apart := false }
def TopFoldSaid : Prop := topFoldRow.holds Tryz.pinned (OpenSpec.ofChange topFoldSpec)

/-- ITS FALSE NEIGHBOUR: 'it returns false'. Refute it at one input. -/
def topFoldWrong : ChangeSpec := { name := "topFold", fn := fun _ => fun
  | [d1, d2] => { results := [.lit (.bool false)], args := [d1, d2] }
  | _ => none }
def TopFoldWrongFalsely : Prop := topFoldRow.holds Tryz.pinned (OpenSpec.ofChange topFoldWrong)

/-- 'bonsaitop.TopSaved': WHATEVER THE INPUT: true; the input reads as it did. -/
def topSavedSpec : ChangeSpec := { name := "topSaved", fn := fun _ => fun
  | [d1, d2, d3] => { results := [.lit (.bool true)], args := [d1, d2, d3] }
  | _ => none }
def topSavedRow : OpenClaim := { program := "ytgoenohknokcmaagreat", sum := "203be6fc7888dc5023ee3bc1e23f209322bfa28b3c9635e7c2f57cbecf138cc8", func := "bonsai/bonsaitop.TopSaved", spec := "topSaved", inPlace := ["slices.overlaps[bonsai/api.Mark]", "slices.overlaps[bonsai/api.Move]", "slices.overlaps[bonsai/api.Row]", "internal/abi.NoEscape"], unfollowed := true, recurses := true, apart := false }
def TopSavedSaid : Prop := topSavedRow.holds Tryz.pinned (OpenSpec.ofChange topSavedSpec)

/-- ITS FALSE NEIGHBOUR: 'it returns false'. Refute it at one input. -/
def topSavedWrong : ChangeSpec := { name := "topSaved", fn := fun _ => fun
  | [d1, d2, d3] => { results := [.lit (.bool false)], args := [d1, d2, d3] }
  | _ => none }
def TopSavedWrongFalsely : Prop := topSavedRow.holds Tryz.pinned (OpenSpec.ofChange topSavedWrong)

/-- 'bonsaitop.TopConverges': WHATEVER THE INPUT: true; the input reads as it did. -/
def topConvergesSpec : ChangeSpec := { name := "topConverges", fn := fun _ => fun
  | [d1, d2, d3] => { results := [.lit (.bool true)], args := [d1, d2, d3] }
  | _ => none }
def topConvergesRow : OpenClaim := { program := "ytgoenohknokcmaagreat", sum := "203be6fc7888dc5023ee3bc1e23f209322bfa28b3c9635e7c2f57cbecf138cc8", func := "bonsai/bonsaitop.TopConverges", spec := "topConverges", inPlace := ["slices.overlaps[bonsai/api.Mark]", "slices.overlaps[bonsai/api.Move]", "slices.overlaps[bonsai/api.Row]", "internal/abi.NoEscape"], unfollowed := true, recurses := true, apart := false }
def TopConvergesSaid : Prop := topConvergesRow.holds Tryz.pinned (OpenSpec.ofChange topConvergesSpec)

/-- ITS FALSE NEIGHBOUR: 'it returns false'. Refute it at one input. -/
def topConvergesWrong : ChangeSpec := { name := "topConverges", fn := fun _ => fun
  | [d1, d2, d3] => { results := [.lit (.bool false)], args := [d1, d2, d3] }
  | _ => none }
def TopConvergesWrongFalsely : Prop := topConvergesRow.holds Tryz.pinned (OpenSpec.ofChange topConvergesWrong)

/-- 'bonsaitop.TopNames': WHATEVER THE INPUT: true; the input reads as it did. -/
def topNamesSpec : ChangeSpec := { name := "topNames", fn := fun _ => fun
  | [d1, d2] => { results := [.lit (.bool true)], args := [d1, d2] }
  | _ => none }
def topNamesRow : OpenClaim := { program := "ytgoenohknokcmaagreat", sum := "203be6fc7888dc5023ee3bc1e23f209322bfa28b3c9635e7c2f57cbecf138cc8", func := "bonsai/bonsaitop.TopNames", spec := "topNames", inPlace := ["slices.overlaps[bonsai/api.Mark]", "slices.overlaps[bonsai/api.Move]", "slices.overlaps[bonsai/api.Row]", "internal/abi.NoEscape"], unfollowed := true, recurses := true, apart := false }
def TopNamesSaid : Prop := topNamesRow.holds Tryz.pinned (OpenSpec.ofChange topNamesSpec)

/-- ITS FALSE NEIGHBOUR: 'it returns false'. Refute it at one input. -/
def topNamesWrong : ChangeSpec := { name := "topNames", fn := fun _ => fun
  | [d1, d2] => { results := [.lit (.bool false)], args := [d1, d2] }
  | _ => none }
def TopNamesWrongFalsely : Prop := topNamesRow.holds Tryz.pinned (OpenSpec.ofChange topNamesWrong)

/-- 'bonsaitop.TopEngine': WHATEVER THE INPUT: true; the input reads as it did. -/
def topEngineSpec : ChangeSpec := { name := "topEngine", fn := fun _ => fun
  | [d] => { results := [.lit (.bool true)], args := [d] }
  | _ => none }
def topEngineRow : OpenClaim := { program := "ytgoenohknokcmaagreat", sum := "203be6fc7888dc5023ee3bc1e23f209322bfa28b3c9635e7c2f57cbecf138cc8", func := "bonsai/bonsaitop.TopEngine", spec := "topEngine", inPlace := ["slices.overlaps[bonsai/api.Mark]", "slices.overlaps[bonsai/api.Move]", "slices.overlaps[bonsai/api.Row]", "internal/abi.NoEscape"], unfollowed := true, recurses := true, apart := false }
def TopEngineSaid : Prop := topEngineRow.holds Tryz.pinned (OpenSpec.ofChange topEngineSpec)

/-- ITS FALSE NEIGHBOUR: 'it returns false'. Refute it at one input. -/
def topEngineWrong : ChangeSpec := { name := "topEngine", fn := fun _ => fun
  | [d] => { results := [.lit (.bool false)], args := [d] }
  | _ => none }
def TopEngineWrongFalsely : Prop := topEngineRow.holds Tryz.pinned (OpenSpec.ofChange topEngineWrong)

/- THE SECOND FORM. 'bulk': how many values and letters a reading holds, each counted each time it is reached (what is shared counts as often as it is met; a slice's spare places count too). A statement '..UptoSaid' is the law's where the arguments, and the package variables that the reading takes, are together of bulk at most 1048576: NARROWER than '..Said'. Prove '..Said' where nothing that the law and all that it calls make is longer than what came in: it says more and counts as full. Else prove '..UptoSaid'. A law counts once. -/
mutual
def uptoBulk {H : Type} : DataW H → Nat
  | .lit (.string bytes) => bytes.length + 1
  | .lit _ => 1
  | .nil => 1
  | .ptr d => uptoBulk d + 1
  | .slice elems spare => uptoBulkAll elems + uptoBulkAll spare + 1
  | .agg parts => uptoBulkAll parts + 1
  | .iface _ d => uptoBulk d + 1
  | .map entries => uptoBulkEntries entries + 1
  | .held _ => 1
def uptoBulkAll {H : Type} : List (DataW H) → Nat
  | [] => 0
  | d :: r => uptoBulk d + uptoBulkAll r
def uptoBulkEntries {H : Type} : List (Lit × DataW H) → Nat
  | [] => 0
  | x :: r => uptoBulkEntry x + uptoBulkEntries r
def uptoBulkEntry {H : Type} : Lit × DataW H → Nat
  | (.string bytes, d) => bytes.length + uptoBulk d + 1
  | (_, d) => uptoBulk d + 1
 end
def uptoSmall : (H : Type) → List (DataW H) → Bool := fun _ ds => decide (uptoBulkAll ds ≤ 1048576)
def OpenSpec.upto (s : _root_.Go.ChangeSpec) : _root_.Go.OpenSpec := { _root_.Go.OpenSpec.ofChange s with cond := some uptoSmall }

/-- 'bonsaitop.TopFold', WHERE WHAT IT READS IS OF BULK AT MOST 1048576: true; the input reads as it did. -/
def topFoldUptoRow : OpenClaim := { program := "ytgoenohknokcmaagreat", sum := "203be6fc7888dc5023ee3bc1e23f209322bfa28b3c9635e7c2f57cbecf138cc8", func := "bonsai/bonsaitop.TopFold", spec := "topFold", inPlace := ["slices.overlaps[bonsai/api.Mark]", "slices.overlaps[bonsai/api.Move]", "slices.overlaps[bonsai/api.Row]", "internal/abi.NoEscape"], unfollowed := true, recurses := true, apart := false, narrowed := true }
def TopFoldUptoSaid : Prop := topFoldUptoRow.holds Tryz.pinned (OpenSpec.upto topFoldSpec)

/-- 'bonsaitop.TopSaved', WHERE WHAT IT READS IS OF BULK AT MOST 1048576: true; the input reads as it did. -/
def topSavedUptoRow : OpenClaim := { program := "ytgoenohknokcmaagreat", sum := "203be6fc7888dc5023ee3bc1e23f209322bfa28b3c9635e7c2f57cbecf138cc8", func := "bonsai/bonsaitop.TopSaved", spec := "topSaved", inPlace := ["slices.overlaps[bonsai/api.Mark]", "slices.overlaps[bonsai/api.Move]", "slices.overlaps[bonsai/api.Row]", "internal/abi.NoEscape"], unfollowed := true, recurses := true, apart := false, narrowed := true }
def TopSavedUptoSaid : Prop := topSavedUptoRow.holds Tryz.pinned (OpenSpec.upto topSavedSpec)

/-- 'bonsaitop.TopConverges', WHERE WHAT IT READS IS OF BULK AT MOST 1048576: true; the input reads as it did. -/
def topConvergesUptoRow : OpenClaim := { program := "ytgoenohknokcmaagreat", sum := "203be6fc7888dc5023ee3bc1e23f209322bfa28b3c9635e7c2f57cbecf138cc8", func := "bonsai/bonsaitop.TopConverges", spec := "topConverges", inPlace := ["slices.overlaps[bonsai/api.Mark]", "slices.overlaps[bonsai/api.Move]", "slices.overlaps[bonsai/api.Row]", "internal/abi.NoEscape"], unfollowed := true, recurses := true, apart := false, narrowed := true }
def TopConvergesUptoSaid : Prop := topConvergesUptoRow.holds Tryz.pinned (OpenSpec.upto topConvergesSpec)

/-- 'bonsaitop.TopNames', WHERE WHAT IT READS IS OF BULK AT MOST 1048576: true; the input reads as it did. -/
def topNamesUptoRow : OpenClaim := { program := "ytgoenohknokcmaagreat", sum := "203be6fc7888dc5023ee3bc1e23f209322bfa28b3c9635e7c2f57cbecf138cc8", func := "bonsai/bonsaitop.TopNames", spec := "topNames", inPlace := ["slices.overlaps[bonsai/api.Mark]", "slices.overlaps[bonsai/api.Move]", "slices.overlaps[bonsai/api.Row]", "internal/abi.NoEscape"], unfollowed := true, recurses := true, apart := false, narrowed := true }
def TopNamesUptoSaid : Prop := topNamesUptoRow.holds Tryz.pinned (OpenSpec.upto topNamesSpec)

/-- 'bonsaitop.TopEngine', WHERE WHAT IT READS IS OF BULK AT MOST 1048576: true; the input reads as it did. -/
def topEngineUptoRow : OpenClaim := { program := "ytgoenohknokcmaagreat", sum := "203be6fc7888dc5023ee3bc1e23f209322bfa28b3c9635e7c2f57cbecf138cc8", func := "bonsai/bonsaitop.TopEngine", spec := "topEngine", inPlace := ["slices.overlaps[bonsai/api.Mark]", "slices.overlaps[bonsai/api.Move]", "slices.overlaps[bonsai/api.Row]", "internal/abi.NoEscape"], unfollowed := true, recurses := true, apart := false, narrowed := true }
def TopEngineUptoSaid : Prop := topEngineUptoRow.holds Tryz.pinned (OpenSpec.upto topEngineSpec)

end Rows
end Go.Proofs.YtgoenohknokcmaaGreat
