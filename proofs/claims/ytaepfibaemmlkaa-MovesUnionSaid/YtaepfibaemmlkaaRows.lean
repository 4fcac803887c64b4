/-
  No cell of these rows narrows 'for every input' (looked for: loops, veiled, ifaces, maps, wideKeys, modest, calm, conditions, laid).
  DERIVED. THE GIVEN ROWS OF THIS SEAT. 12 by the template 'for every input the law returns true; each argument reads behind the call as it read before'; 0 by the template 'total and deterministic' (their statements: YtaepfibaemmlkaaTotals.lean).
  GIVEN WITH THE SEED: the statements are not yours to turn. If you find one false, say at which input.
  Laid BY PROGRAM, IN A SANDBOX (cutbox-rows.mjs): the forced cells as the released guide's own fill.sh prints them over the translation e5d5bda9f0be8ca7… (all of the seat's roots in one cut). By AI agents, Wed Nov 11 2026. No macro, syntax, notation, axiom, sorry.
-/
import Derived.Test.YtaepfibaemmlkaaChecked
import GoSem.Claim
import GoSem.ClaimJoined
import GoSem.ClaimMapViews
import Derived.JoinedTies
import Derived.KernelRfl
namespace Go.Proofs.Ytaepfibaemmlkaa
/- THE CELL 'sum', in the pinned program and in every row, IS THE sha256 OF THE DUMP (.gsa) THAT YtaepfibaemmlkaaProg.lean LOADS. Nothing in Lean hashes anything: it is a label: what it is worth is what the hold of that sum in a sandbox is worth. -/
noncomputable def Try.pinned : Pinned := { name := "ytaepfibaemmlkaa", sum := "e5d5bda9f0be8ca7f5cf3ddef6c70fda2e34937a8a6f6ea35b7c9730ea9f0cb6", checked := Try.checked }
namespace Rows
def none {H : Type} : Left H := { results := [], args := [] }

/-- 'bonsailaw17.MarksTells': WHATEVER THE INPUT: true; the input reads as it did. -/
def marksTellsSpec : ChangeSpec := { name := "marksTells", fn := fun _ => fun
  | [d1, d2, d3] => { results := [.lit (.bool true)], args := [d1, d2, d3] }
  | _ => none }
def marksTellsRow : OpenClaim := { program := "ytaepfibaemmlkaa", sum := "e5d5bda9f0be8ca7f5cf3ddef6c70fda2e34937a8a6f6ea35b7c9730ea9f0cb6", func := "bonsai/bonsailaw17.MarksTells", spec := "marksTells", inPlace := ["slices.overlaps[bonsai/api.Mark]"], unfollowed := true, recurses := true, apart := false }
def MarksTellsSaid : Prop := marksTellsRow.holds Try.pinned (OpenSpec.ofChange marksTellsSpec)

/-- ITS FALSE NEIGHBOUR: 'it returns false'. Refute it at one input. -/
def marksTellsWrong : ChangeSpec := { name := "marksTells", fn := fun _ => fun
  | [d1, d2, d3] => { results := [.lit (.bool false)], args := [d1, d2, d3] }
  | _ => none }
def MarksTellsWrongFalsely : Prop := marksTellsRow.holds Try.pinned (OpenSpec.ofChange marksTellsWrong)

/-- 'bonsailaw17.MarksOf': WHATEVER THE INPUT: true; the input reads as it did. -/
def marksOfSpec : ChangeSpec := { name := "marksOf", fn := fun _ => fun
  | [d] => { results := [.lit (.bool true)], args := [d] }
  | _ => none }
def marksOfRow : OpenClaim := { program := "ytaepfibaemmlkaa", sum := "e5d5bda9f0be8ca7f5cf3ddef6c70fda2e34937a8a6f6ea35b7c9730ea9f0cb6", func := "bonsai/bonsailaw17.MarksOf", spec := "marksOf", inPlace := ["slices.overlaps[bonsai/api.Mark]"], unfollowed := true, recurses := true, apart := false }
def MarksOfSaid : Prop := marksOfRow.holds Try.pinned (OpenSpec.ofChange marksOfSpec)

/-- ITS FALSE NEIGHBOUR: 'it returns false'. Refute it at one input. -/
def marksOfWrong : ChangeSpec := { name := "marksOf", fn := fun _ => fun
  | [d] => { results := [.lit (.bool false)], args := [d] }
  | _ => none }
def MarksOfWrongFalsely : Prop := marksOfRow.holds Try.pinned (OpenSpec.ofChange marksOfWrong)

/-- 'bonsailaw17.MarksJoin': WHATEVER THE INPUT: true; the input reads as it did. -/
def marksJoinSpec : ChangeSpec := { name := "marksJoin", fn := fun _ => fun
  | [d1, d2, d3] => { results := [.lit (.bool true)], args := [d1, d2, d3] }
  | _ => none }
def marksJoinRow : OpenClaim := { program := "ytaepfibaemmlkaa", sum := "e5d5bda9f0be8ca7f5cf3ddef6c70fda2e34937a8a6f6ea35b7c9730ea9f0cb6", func := "bonsai/bonsailaw17.MarksJoin", spec := "marksJoin", inPlace := ["slices.overlaps[bonsai/api.Mark]"], unfollowed := true, recurses := true, apart := false }
def MarksJoinSaid : Prop := marksJoinRow.holds Try.pinned (OpenSpec.ofChange marksJoinSpec)

/-- ITS FALSE NEIGHBOUR: 'it returns false'. Refute it at one input. -/
def marksJoinWrong : ChangeSpec := { name := "marksJoin", fn := fun _ => fun
  | [d1, d2, d3] => { results := [.lit (.bool false)], args := [d1, d2, d3] }
  | _ => none }
def MarksJoinWrongFalsely : Prop := marksJoinRow.holds Try.pinned (OpenSpec.ofChange marksJoinWrong)

/-- 'bonsailaw17.MarksMoves': WHATEVER THE INPUT: true; the input reads as it did. -/
def marksMovesSpec : ChangeSpec := { name := "marksMoves", fn := fun _ => fun
  | [d1, d2] => { results := [.lit (.bool true)], args := [d1, d2] }
  | _ => none }
def marksMovesRow : OpenClaim := { program := "ytaepfibaemmlkaa", sum := "e5d5bda9f0be8ca7f5cf3ddef6c70fda2e34937a8a6f6ea35b7c9730ea9f0cb6", func := "bonsai/bonsailaw17.MarksMoves", spec := "marksMoves", inPlace := ["slices.overlaps[bonsai/api.Mark]"], unfollowed := true, recurses := true, apart := false }
def MarksMovesSaid : Prop := marksMovesRow.holds Try.pinned (OpenSpec.ofChange marksMovesSpec)

/-- ITS FALSE NEIGHBOUR: 'it returns false'. Refute it at one input. -/
def marksMovesWrong : ChangeSpec := { name := "marksMoves", fn := fun _ => fun
  | [d1, d2] => { results := [.lit (.bool false)], args := [d1, d2] }
  | _ => none }
def MarksMovesWrongFalsely : Prop := marksMovesRow.holds Try.pinned (OpenSpec.ofChange marksMovesWrong)

/-- 'bonsailaw17.MarksNext': WHATEVER THE INPUT: true; the input reads as it did. -/
def marksNextSpec : ChangeSpec := { name := "marksNext", fn := fun _ => fun
  | [d1, d2, d3] => { results := [.lit (.bool true)], args := [d1, d2, d3] }
  | _ => none }
def marksNextRow : OpenClaim := { program := "ytaepfibaemmlkaa", sum := "e5d5bda9f0be8ca7f5cf3ddef6c70fda2e34937a8a6f6ea35b7c9730ea9f0cb6", func := "bonsai/bonsailaw17.MarksNext", spec := "marksNext", inPlace := ["slices.overlaps[bonsai/api.Mark]"], unfollowed := true, recurses := true, apart := false }
def MarksNextSaid : Prop := marksNextRow.holds Try.pinned (OpenSpec.ofChange marksNextSpec)

/-- ITS FALSE NEIGHBOUR: 'it returns false'. Refute it at one input. -/
def marksNextWrong : ChangeSpec := { name := "marksNext", fn := fun _ => fun
  | [d1, d2, d3] => { results := [.lit (.bool false)], args := [d1, d2, d3] }
  | _ => none }
def MarksNextWrongFalsely : Prop := marksNextRow.holds Try.pinned (OpenSpec.ofChange marksNextWrong)

/-- 'bonsailaw17.MarksOrder': WHATEVER THE INPUT: true; the input reads as it did. -/
def marksOrderSpec : ChangeSpec := { name := "marksOrder", fn := fun _ => fun
  | [d1, d2, d3] => { results := [.lit (.bool true)], args := [d1, d2, d3] }
  | _ => none }
def marksOrderRow : OpenClaim := { program := "ytaepfibaemmlkaa", sum := "e5d5bda9f0be8ca7f5cf3ddef6c70fda2e34937a8a6f6ea35b7c9730ea9f0cb6", func := "bonsai/bonsailaw17.MarksOrder", spec := "marksOrder", inPlace := ["slices.overlaps[bonsai/api.Mark]"], unfollowed := true, recurses := true, apart := false }
def MarksOrderSaid : Prop := marksOrderRow.holds Try.pinned (OpenSpec.ofChange marksOrderSpec)

/-- ITS FALSE NEIGHBOUR: 'it returns false'. Refute it at one input. -/
def marksOrderWrong : ChangeSpec := { name := "marksOrder", fn := fun _ => fun
  | [d1, d2, d3] => { results := [.lit (.bool false)], args := [d1, d2, d3] }
  | _ => none }
def MarksOrderWrongFalsely : Prop := marksOrderRow.holds Try.pinned (OpenSpec.ofChange marksOrderWrong)

/-- 'bonsailaw13.MovesTells': WHATEVER THE INPUT: true; the input reads as it did. -/
def movesTellsSpec : ChangeSpec := { name := "movesTells", fn := fun _ => fun
  | [d1, d2, d3] => { results := [.lit (.bool true)], args := [d1, d2, d3] }
  | _ => none }
def movesTellsRow : OpenClaim := { program := "ytaepfibaemmlkaa", sum := "e5d5bda9f0be8ca7f5cf3ddef6c70fda2e34937a8a6f6ea35b7c9730ea9f0cb6", func := "bonsai/bonsailaw13.MovesTells", spec := "movesTells", inPlace := ["slices.overlaps[bonsai/api.Move]"], unfollowed := true, recurses := true, apart := false }
def MovesTellsSaid : Prop := movesTellsRow.holds Try.pinned (OpenSpec.ofChange movesTellsSpec)

/-- ITS FALSE NEIGHBOUR: 'it returns false'. Refute it at one input. -/
def movesTellsWrong : ChangeSpec := { name := "movesTells", fn := fun _ => fun
  | [d1, d2, d3] => { results := [.lit (.bool false)], args := [d1, d2, d3] }
  | _ => none }
def MovesTellsWrongFalsely : Prop := movesTellsRow.holds Try.pinned (OpenSpec.ofChange movesTellsWrong)

/-- 'bonsailaw13.MovesInserts': WHATEVER THE INPUT: true; the input reads as it did. -/
def movesInsertsSpec : ChangeSpec := { name := "movesInserts", fn := fun _ => fun
  | [d1, d2] => { results := [.lit (.bool true)], args := [d1, d2] }
  | _ => none }
def movesInsertsRow : OpenClaim := { program := "ytaepfibaemmlkaa", sum := "e5d5bda9f0be8ca7f5cf3ddef6c70fda2e34937a8a6f6ea35b7c9730ea9f0cb6", func := "bonsai/bonsailaw13.MovesInserts", spec := "movesInserts", inPlace := ["slices.overlaps[bonsai/api.Move]"], unfollowed := true, recurses := true, apart := false }
def MovesInsertsSaid : Prop := movesInsertsRow.holds Try.pinned (OpenSpec.ofChange movesInsertsSpec)

/-- ITS FALSE NEIGHBOUR: 'it returns false'. Refute it at one input. -/
def movesInsertsWrong : ChangeSpec := { name := "movesInserts", fn := fun _ => fun
  | [d1, d2] => { results := [.lit (.bool false)], args := [d1, d2] }
  | _ => none }
def MovesInsertsWrongFalsely : Prop := movesInsertsRow.holds Try.pinned (OpenSpec.ofChange movesInsertsWrong)

/-- 'bonsailaw13.MovesMay': WHATEVER THE INPUT: true; the input reads as it did. -/
def movesMaySpec : ChangeSpec := { name := "movesMay", fn := fun _ => fun
  | [d1, d2] => { results := [.lit (.bool true)], args := [d1, d2] }
  | _ => none }
def movesMayRow : OpenClaim := { program := "ytaepfibaemmlkaa", sum := "e5d5bda9f0be8ca7f5cf3ddef6c70fda2e34937a8a6f6ea35b7c9730ea9f0cb6", func := "bonsai/bonsailaw13.MovesMay", spec := "movesMay", inPlace := ["slices.overlaps[bonsai/api.Move]"], unfollowed := true, recurses := true, apart := false }
def MovesMaySaid : Prop := movesMayRow.holds Try.pinned (OpenSpec.ofChange movesMaySpec)

/-- ITS FALSE NEIGHBOUR: 'it returns false'. Refute it at one input. -/
def movesMayWrong : ChangeSpec := { name := "movesMay", fn := fun _ => fun
  | [d1, d2] => { results := [.lit (.bool false)], args := [d1, d2] }
  | _ => none }
def MovesMayWrongFalsely : Prop := movesMayRow.holds Try.pinned (OpenSpec.ofChange movesMayWrong)

/-- 'bonsailaw13.MovesOrder': WHATEVER THE INPUT: true; the input reads as it did. -/
def movesOrderSpec : ChangeSpec := { name := "movesOrder", fn := fun _ => fun
  | [d1, d2] => { results := [.lit (.bool true)], args := [d1, d2] }
  | _ => none }
def movesOrderRow : OpenClaim := { program := "ytaepfibaemmlkaa", sum := "e5d5bda9f0be8ca7f5cf3ddef6c70fda2e34937a8a6f6ea35b7c9730ea9f0cb6", func := "bonsai/bonsailaw13.MovesOrder", spec := "movesOrder", inPlace := ["slices.overlaps[bonsai/api.Move]"], unfollowed := true, recurses := true, apart := false }
def MovesOrderSaid : Prop := movesOrderRow.holds Try.pinned (OpenSpec.ofChange movesOrderSpec)

/-- ITS FALSE NEIGHBOUR: 'it returns false'. Refute it at one input. -/
def movesOrderWrong : ChangeSpec := { name := "movesOrder", fn := fun _ => fun
  | [d1, d2] => { results := [.lit (.bool false)], args := [d1, d2] }
  | _ => none }
def MovesOrderWrongFalsely : Prop := movesOrderRow.holds Try.pinned (OpenSpec.ofChange movesOrderWrong)

/-- 'bonsailaw13.MovesSince': WHATEVER THE INPUT: true; the input reads as it did. -/
def movesSinceSpec : ChangeSpec := { name := "movesSince", fn := fun _ => fun
  | [d1, d2] => { results := [.lit (.bool true)], args := [d1, d2] }
  | _ => none }
def movesSinceRow : OpenClaim := { program := "ytaepfibaemmlkaa", sum := "e5d5bda9f0be8ca7f5cf3ddef6c70fda2e34937a8a6f6ea35b7c9730ea9f0cb6", func := "bonsai/bonsailaw13.MovesSince", spec := "movesSince", inPlace := ["slices.overlaps[bonsai/api.Move]"], unfollowed := true, recurses := true, apart := false }
def MovesSinceSaid : Prop := movesSinceRow.holds Try.pinned (OpenSpec.ofChange movesSinceSpec)

/-- ITS FALSE NEIGHBOUR: 'it returns false'. Refute it at one input. -/
def movesSinceWrong : ChangeSpec := { name := "movesSince", fn := fun _ => fun
  | [d1, d2] => { results := [.lit (.bool false)], args := [d1, d2] }
  | _ => none }
def MovesSinceWrongFalsely : Prop := movesSinceRow.holds Try.pinned (OpenSpec.ofChange movesSinceWrong)

/-- 'bonsailaw13.MovesUnion': WHATEVER THE INPUT: true; the input reads as it did. -/
def movesUnionSpec : ChangeSpec := { name := "movesUnion", fn := fun _ => fun
  | [d1, d2, d3] => { results := [.lit (.bool true)], args := [d1, d2, d3] }
  | _ => none }
def movesUnionRow : OpenClaim := { program := "ytaepfibaemmlkaa", sum := "e5d5bda9f0be8ca7f5cf3ddef6c70fda2e34937a8a6f6ea35b7c9730ea9f0cb6", func := "bonsai/bonsailaw13.MovesUnion", spec := "movesUnion", inPlace := ["slices.overlaps[bonsai/api.Move]"], unfollowed := true, recurses := true, apart := false }
def MovesUnionSaid : Prop := movesUnionRow.holds Try.pinned (OpenSpec.ofChange movesUnionSpec)

/-- ITS FALSE NEIGHBOUR: 'it returns false'. Refute it at one input. -/
def movesUnionWrong : ChangeSpec := { name := "movesUnion", fn := fun _ => fun
  | [d1, d2, d3] => { results := [.lit (.bool false)], args := [d1, d2, d3] }
  | _ => none }
def MovesUnionWrongFalsely : Prop := movesUnionRow.holds Try.pinned (OpenSpec.ofChange movesUnionWrong)

/- THE SECOND FORM. 'bulk': how many values and letters a reading holds, each counted each time it is reached (what is shared counts as often as it is met; a slice's spare places count too). A statement '..UptoSaid' is the law's where the arguments, and the package variables that the reading takes, are together of bulk at most 1048576: NARROWER than '..Said'. Prove '..Said' where nothing that the law and all that it calls make is longer than what came in: it says more and counts as full. Else prove '..UptoSaid'. A law counts once. -/
mutual
def uptoBulk {H : Type} : DataW H → Nat
  | .lit (.string bytes) => bytes.length + 1
  | .lit _ => 1
  | .nil => 1
  | .ptr d => uptoBulk d + 1
  | .slice elems spare => uptoBulkAll elems + uptoBulkAll spare + 1
  | .agg parts => uptoBulkAll parts + 1
  | .iface _ d => uptoBulk d + 1
  | .map entries => uptoBulkEntries entries + 1
  | .held _ => 1
def uptoBulkAll {H : Type} : List (DataW H) → Nat
  | [] => 0
  | d :: r => uptoBulk d + uptoBulkAll r
def uptoBulkEntries {H : Type} : List (Lit × DataW H) → Nat
  | [] => 0
  | x :: r => uptoBulkEntry x + uptoBulkEntries r
def uptoBulkEntry {H : Type} : Lit × DataW H → Nat
  | (.string bytes, d) => bytes.length + uptoBulk d + 1
  | (_, d) => uptoBulk d + 1
 end
def uptoSmall : (H : Type) → List (DataW H) → Bool := fun _ ds => decide (uptoBulkAll ds ≤ 1048576)
def OpenSpec.upto (s : _root_.Go.ChangeSpec) : _root_.Go.OpenSpec := { _root_.Go.OpenSpec.ofChange s with cond := some uptoSmall }

/-- 'bonsailaw17.MarksTells', WHERE WHAT IT READS IS OF BULK AT MOST 1048576: true; the input reads as it did. -/
def marksTellsUptoRow : OpenClaim := { program := "ytaepfibaemmlkaa", sum := "e5d5bda9f0be8ca7f5cf3ddef6c70fda2e34937a8a6f6ea35b7c9730ea9f0cb6", func := "bonsai/bonsailaw17.MarksTells", spec := "marksTells", inPlace := ["slices.overlaps[bonsai/api.Mark]"], unfollowed := true, recurses := true, apart := false, narrowed := true }
def MarksTellsUptoSaid : Prop := marksTellsUptoRow.holds Try.pinned (OpenSpec.upto marksTellsSpec)

/-- 'bonsailaw17.MarksOf', WHERE WHAT IT READS IS OF BULK AT MOST 1048576: true; the input reads as it did. -/
def marksOfUptoRow : OpenClaim := { program := "ytaepfibaemmlkaa", sum := "e5d5bda9f0be8ca7f5cf3ddef6c70fda2e34937a8a6f6ea35b7c9730ea9f0cb6", func := "bonsai/bonsailaw17.MarksOf", spec := "marksOf", inPlace := ["slices.overlaps[bonsai/api.Mark]"], unfollowed := true, recurses := true, apart := false, narrowed := true }
def MarksOfUptoSaid : Prop := marksOfUptoRow.holds Try.pinned (OpenSpec.upto marksOfSpec)

/-- 'bonsailaw17.MarksJoin', WHERE WHAT IT READS IS OF BULK AT MOST 1048576: true; the input reads as it did. -/
def marksJoinUptoRow : OpenClaim := { program := "ytaepfibaemmlkaa", sum := "e5d5bda9f0be8ca7f5cf3ddef6c70fda2e34937a8a6f6ea35b7c9730ea9f0cb6", func := "bonsai/bonsailaw17.MarksJoin", spec := "marksJoin", inPlace := ["slices.overlaps[bonsai/api.Mark]"], unfollowed := true, recurses := true, apart := false, narrowed := true }
def MarksJoinUptoSaid : Prop := marksJoinUptoRow.holds Try.pinned (OpenSpec.upto marksJoinSpec)

/-- 'bonsailaw17.MarksMoves', WHERE WHAT IT READS IS OF BULK AT MOST 1048576: true; the input reads as it did. -/
def marksMovesUptoRow : OpenClaim := { program := "ytaepfibaemmlkaa", sum := "e5d5bda9f0be8ca7f5cf3ddef6c70fda2e34937a8a6f6ea35b7c9730ea9f0cb6", func := "bonsai/bonsailaw17.MarksMoves", spec := "marksMoves", inPlace := ["slices.overlaps[bonsai/api.Mark]"], unfollowed := true, recurses := true, apart := false, narrowed := true }
def MarksMovesUptoSaid : Prop := marksMovesUptoRow.holds Try.pinned (OpenSpec.upto marksMovesSpec)

/-- 'bonsailaw17.MarksNext', WHERE WHAT IT READS IS OF BULK AT MOST 1048576: true; the input reads as it did. -/
def marksNextUptoRow : OpenClaim := { program := "ytaepfibaemmlkaa", sum := "e5d5bda9f0be8ca7f5cf3ddef6c70fda2e34937a8a6f6ea35b7c9730ea9f0cb6", func := "bonsai/bonsailaw17.MarksNext", spec := "marksNext", inPlace := ["slices.overlaps[bonsai/api.Mark]"], unfollowed := true, recurses := true, apart := false, narrowed := true }
def MarksNextUptoSaid : Prop := marksNextUptoRow.holds Try.pinned (OpenSpec.upto marksNextSpec)

/-- 'bonsailaw17.MarksOrder', WHERE WHAT IT READS IS OF BULK AT MOST 1048576: true; the input reads as it did. -/
def marksOrderUptoRow : OpenClaim := { program := "ytaepfibaemmlkaa", sum := "e5d5bda9f0be8ca7f5cf3ddef6c70fda2e34937a8a6f6ea35b7c9730ea9f0cb6", func := "bonsai/bonsailaw17.MarksOrder", spec := "marksOrder", inPlace := ["slices.overlaps[bonsai/api.Mark]"], unfollowed := true, recurses := true, apart := false, narrowed := true }
def MarksOrderUptoSaid : Prop := marksOrderUptoRow.holds Try.pinned (OpenSpec.upto marksOrderSpec)

/-- 'bonsailaw13.MovesTells', WHERE WHAT IT READS IS OF BULK AT MOST 1048576: true; the input reads as it did. -/
def movesTellsUptoRow : OpenClaim := { program := "ytaepfibaemmlkaa", sum := "e5d5bda9f0be8ca7f5cf3ddef6c70fda2e34937a8a6f6ea35b7c9730ea9f0cb6", func := "bonsai/bonsailaw13.MovesTells", spec := "movesTells", inPlace := ["slices.overlaps[bonsai/api.Move]"], unfollowed := true, recurses := true, apart := false, narrowed := true }
def MovesTellsUptoSaid : Prop := movesTellsUptoRow.holds Try.pinned (OpenSpec.upto movesTellsSpec)

/-- 'bonsailaw13.MovesInserts', WHERE WHAT IT READS IS OF BULK AT MOST 1048576: true; the input reads as it did. -/
def movesInsertsUptoRow : OpenClaim := { program := "ytaepfibaemmlkaa", sum := "e5d5bda9f0be8ca7f5cf3ddef6c70fda2e34937a8a6f6ea35b7c9730ea9f0cb6", func := "bonsai/bonsailaw13.MovesInserts", spec := "movesInserts", inPlace := ["slices.overlaps[bonsai/api.Move]"], unfollowed := true, recurses := true, apart := false, narrowed := true }
def MovesInsertsUptoSaid : Prop := movesInsertsUptoRow.holds Try.pinned (OpenSpec.upto movesInsertsSpec)

/-- 'bonsailaw13.MovesMay', WHERE WHAT IT READS IS OF BULK AT MOST 1048576: true; the input reads as it did. -/
def movesMayUptoRow : OpenClaim := { program := "ytaepfibaemmlkaa", sum := "e5d5bda9f0be8ca7f5cf3ddef6c70fda2e34937a8a6f6ea35b7c9730ea9f0cb6", func := "bonsai/bonsailaw13.MovesMay", spec := "movesMay", inPlace := ["slices.overlaps[bonsai/api.Move]"], unfollowed := true, recurses := true, apart := false, narrowed := true }
def MovesMayUptoSaid : Prop := movesMayUptoRow.holds Try.pinned (OpenSpec.upto movesMaySpec)

/-- 'bonsailaw13.MovesOrder', WHERE WHAT IT READS IS OF BULK AT MOST 1048576: true; the input reads as it did. -/
def movesOrderUptoRow : OpenClaim := { program := "ytaepfibaemmlkaa", sum := "e5d5bda9f0be8ca7f5cf3ddef6c70fda2e34937a8a6f6ea35b7c9730ea9f0cb6", func := "bonsai/bonsailaw13.MovesOrder", spec := "movesOrder", inPlace := ["slices.overlaps[bonsai/api.Move]"], unfollowed := true, recurses := true, apart := false, narrowed := true }
def MovesOrderUptoSaid : Prop := movesOrderUptoRow.holds Try.pinned (OpenSpec.upto movesOrderSpec)

/-- 'bonsailaw13.MovesSince', WHERE WHAT IT READS IS OF BULK AT MOST 1048576: true; the input reads as it did. -/
def movesSinceUptoRow : OpenClaim := { program := "ytaepfibaemmlkaa", sum := "e5d5bda9f0be8ca7f5cf3ddef6c70fda2e34937a8a6f6ea35b7c9730ea9f0cb6", func := "bonsai/bonsailaw13.MovesSince", spec := "movesSince", inPlace := ["slices.overlaps[bonsai/api.Move]"], unfollowed := true, recurses := true, apart := false, narrowed := true }
def MovesSinceUptoSaid : Prop := movesSinceUptoRow.holds Try.pinned (OpenSpec.upto movesSinceSpec)

/-- 'bonsailaw13.MovesUnion', WHERE WHAT IT READS IS OF BULK AT MOST 1048576: true; the input reads as it did. -/
def movesUnionUptoRow : OpenClaim := { program := "ytaepfibaemmlkaa", sum := "e5d5bda9f0be8ca7f5cf3ddef6c70fda2e34937a8a6f6ea35b7c9730ea9f0cb6", func := "bonsai/bonsailaw13.MovesUnion", spec := "movesUnion", inPlace := ["slices.overlaps[bonsai/api.Move]"], unfollowed := true, recurses := true, apart := false, narrowed := true }
def MovesUnionUptoSaid : Prop := movesUnionUptoRow.holds Try.pinned (OpenSpec.upto movesUnionSpec)

end Rows
end Go.Proofs.Ytaepfibaemmlkaa
