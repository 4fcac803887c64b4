/-
  No cell of these rows narrows 'for every input' (looked for: loops, veiled, ifaces, maps, wideKeys, modest, calm, conditions, laid).
  DERIVED. THE GIVEN ROWS OF THIS SEAT. 7 by the template 'for every input the law returns true; each argument reads behind the call as it read before'; 0 by the template 'total and deterministic' (their statements: YtjgbgmedbfhgdaaGreatTotals.lean).
  GIVEN WITH THE SEED: the statements are not yours to turn. If you find one false, say at which input.
  Laid BY PROGRAM, IN A SANDBOX (cutbox-rows.mjs): the forced cells as the released guide's own fill.sh prints them over the translation 8ba062a24d0eb944… (all of the seat's roots in one cut). By AI agents, Wed Nov 11 2026. No macro, syntax, notation, axiom, sorry.
-/
import Derived.Test.YtjgbgmedbfhgdaaGreatChecked
import GoSem.Claim
import GoSem.ClaimJoined
import GoSem.ClaimMapViews
import Derived.JoinedTies
import Derived.KernelRfl
namespace Go.Proofs.YtjgbgmedbfhgdaaGreat
/- THE CELL 'sum', in the pinned program and in every row, IS THE sha256 OF THE DUMP (.gsa) THAT YtjgbgmedbfhgdaaGreatProg.lean LOADS. Nothing in Lean hashes anything: it is a label: what it is worth is what the hold of that sum in a sandbox is worth. -/
noncomputable def Tryz.pinned : Pinned := { name := "ytjgbgmedbfhgdaagreat", sum := "8ba062a24d0eb944b47b327756f7510992829eaf8546906d0a888c4d8421223b", checked := Tryz.checked }
namespace Rows
def none {H : Type} : Left H := { results := [], args := [] }

/-- 'bonsailaw18.FloorTells': WHATEVER THE INPUT: true; the input reads as it did. -/
def floorTellsSpec : ChangeSpec := { name := "floorTells", fn := fun _ => fun
  | [d1, d2, d3] => { results := [.lit (.bool true)], args := [d1, d2, d3] }
  | _ => none }
def floorTellsRow : OpenClaim := { program := "ytjgbgmedbfhgdaagreat", sum := "8ba062a24d0eb944b47b327756f7510992829eaf8546906d0a888c4d8421223b", func := "bonsai/bonsailaw18.FloorTells", spec := "floorTells", inPlace := ["slices.overlaps[bonsai/api.Mark]", "slices.overlaps[bonsai/api.Move]", "slices.overlaps[bonsai/api.Row]"], unfollowed := true, recurses := true, apart := false }
def FloorTellsSaid : Prop := floorTellsRow.holds Tryz.pinned (OpenSpec.ofChange floorTellsSpec)

/-- ITS FALSE NEIGHBOUR: 'it returns false'. Refute it at one input. -/
def floorTellsWrong : ChangeSpec := { name := "floorTells", fn := fun _ => fun
  | [d1, d2, d3] => { results := [.lit (.bool false)], args := [d1, d2, d3] }
  | _ => none }
def FloorTellsWrongFalsely : Prop := floorTellsRow.holds Tryz.pinned (OpenSpec.ofChange floorTellsWrong)

/-- 'bonsailaw18.FloorMerges': WHATEVER THE INPUT: true; the input reads as it did. -/
def floorMergesSpec : ChangeSpec := { name := "floorMerges", fn := fun _ => fun
  | [d1, d2] => { results := [.lit (.bool true)], args := [d1, d2] }
  | _ => none }
def floorMergesRow : OpenClaim := { program := "ytjgbgmedbfhgdaagreat", sum := "8ba062a24d0eb944b47b327756f7510992829eaf8546906d0a888c4d8421223b", func := "bonsai/bonsailaw18.FloorMerges", spec := "floorMerges", inPlace := ["slices.overlaps[bonsai/api.Mark]", "slices.overlaps[bonsai/api.Move]", "slices.overlaps[bonsai/api.Row]"], unfollowed := true, recurses := true, apart := false }
def FloorMergesSaid : Prop := floorMergesRow.holds Tryz.pinned (OpenSpec.ofChange floorMergesSpec)

/-- ITS FALSE NEIGHBOUR: 'it returns false'. Refute it at one input. -/
def floorMergesWrong : ChangeSpec := { name := "floorMerges", fn := fun _ => fun
  | [d1, d2] => { results := [.lit (.bool false)], args := [d1, d2] }
  | _ => none }
def FloorMergesWrongFalsely : Prop := floorMergesRow.holds Tryz.pinned (OpenSpec.ofChange floorMergesWrong)

/-- 'bonsailaw18.FloorMay': WHATEVER THE INPUT: true; the input reads as it did. -/
def floorMaySpec : ChangeSpec := { name := "floorMay", fn := fun _ => fun
  | [d1, d2, d3] => { results := [.lit (.bool true)], args := [d1, d2, d3] }
  | _ => none }
def floorMayRow : OpenClaim := { program := "ytjgbgmedbfhgdaagreat", sum := "8ba062a24d0eb944b47b327756f7510992829eaf8546906d0a888c4d8421223b", func := "bonsai/bonsailaw18.FloorMay", spec := "floorMay", inPlace := ["slices.overlaps[bonsai/api.Mark]", "slices.overlaps[bonsai/api.Move]", "slices.overlaps[bonsai/api.Row]"], unfollowed := true, recurses := true, apart := false }
def FloorMaySaid : Prop := floorMayRow.holds Tryz.pinned (OpenSpec.ofChange floorMaySpec)

/-- ITS FALSE NEIGHBOUR: 'it returns false'. Refute it at one input. -/
def floorMayWrong : ChangeSpec := { name := "floorMay", fn := fun _ => fun
  | [d1, d2, d3] => { results := [.lit (.bool false)], args := [d1, d2, d3] }
  | _ => none }
def FloorMayWrongFalsely : Prop := floorMayRow.holds Tryz.pinned (OpenSpec.ofChange floorMayWrong)

/-- 'bonsailaw18.FloorKeeps': WHATEVER THE INPUT: true; the input reads as it did. -/
def floorKeepsSpec : ChangeSpec := { name := "floorKeeps", fn := fun _ => fun
  | [d1, d2, d3] => { results := [.lit (.bool true)], args := [d1, d2, d3] }
  | _ => none }
def floorKeepsRow : OpenClaim := { program := "ytjgbgmedbfhgdaagreat", sum := "8ba062a24d0eb944b47b327756f7510992829eaf8546906d0a888c4d8421223b", func := "bonsai/bonsailaw18.FloorKeeps", spec := "floorKeeps", inPlace := ["slices.overlaps[bonsai/api.Mark]", "slices.overlaps[bonsai/api.Move]", "slices.overlaps[bonsai/api.Row]"], unfollowed := true, recurses := true, apart := false }
def FloorKeepsSaid : Prop := floorKeepsRow.holds Tryz.pinned (OpenSpec.ofChange floorKeepsSpec)

/-- ITS FALSE NEIGHBOUR: 'it returns false'. Refute it at one input. -/
def floorKeepsWrong : ChangeSpec := { name := "floorKeeps", fn := fun _ => fun
  | [d1, d2, d3] => { results := [.lit (.bool false)], args := [d1, d2, d3] }
  | _ => none }
def FloorKeepsWrongFalsely : Prop := floorKeepsRow.holds Tryz.pinned (OpenSpec.ofChange floorKeepsWrong)

/-- 'bonsailaw18.FloorOrder': WHATEVER THE INPUT: true; the input reads as it did. -/
def floorOrderSpec : ChangeSpec := { name := "floorOrder", fn := fun _ => fun
  | [d1, d2] => { results := [.lit (.bool true)], args := [d1, d2] }
  | _ => none }
def floorOrderRow : OpenClaim := { program := "ytjgbgmedbfhgdaagreat", sum := "8ba062a24d0eb944b47b327756f7510992829eaf8546906d0a888c4d8421223b", func := "bonsai/bonsailaw18.FloorOrder", spec := "floorOrder", inPlace := ["slices.overlaps[bonsai/api.Mark]", "slices.overlaps[bonsai/api.Move]", "slices.overlaps[bonsai/api.Row]"], unfollowed := true, recurses := true, apart := false }
def FloorOrderSaid : Prop := floorOrderRow.holds Tryz.pinned (OpenSpec.ofChange floorOrderSpec)

/-- ITS FALSE NEIGHBOUR: 'it returns false'. Refute it at one input. -/
def floorOrderWrong : ChangeSpec := { name := "floorOrder", fn := fun _ => fun
  | [d1, d2] => { results := [.lit (.bool false)], args := [d1, d2] }
  | _ => none }
def FloorOrderWrongFalsely : Prop := floorOrderRow.holds Tryz.pinned (OpenSpec.ofChange floorOrderWrong)

/-- 'bonsailaw18.FloorTwice': WHATEVER THE INPUT: true; the input reads as it did. -/
def floorTwiceSpec : ChangeSpec := { name := "floorTwice", fn := fun _ => fun
  | [d1, d2, d3] => { results := [.lit (.bool true)], args := [d1, d2, d3] }
  | _ => none }
def floorTwiceRow : OpenClaim := { program := "ytjgbgmedbfhgdaagreat", sum := "8ba062a24d0eb944b47b327756f7510992829eaf8546906d0a888c4d8421223b", func := "bonsai/bonsailaw18.FloorTwice", spec := "floorTwice", inPlace := ["slices.overlaps[bonsai/api.Mark]", "slices.overlaps[bonsai/api.Move]", "slices.overlaps[bonsai/api.Row]"], unfollowed := true, recurses := true, apart := false }
def FloorTwiceSaid : Prop := floorTwiceRow.holds Tryz.pinned (OpenSpec.ofChange floorTwiceSpec)

/-- ITS FALSE NEIGHBOUR: 'it returns false'. Refute it at one input. -/
def floorTwiceWrong : ChangeSpec := { name := "floorTwice", fn := fun _ => fun
  | [d1, d2, d3] => { results := [.lit (.bool false)], args := [d1, d2, d3] }
  | _ => none }
def FloorTwiceWrongFalsely : Prop := floorTwiceRow.holds Tryz.pinned (OpenSpec.ofChange floorTwiceWrong)

/-- 'bonsailaw18.FloorMarks': WHATEVER THE INPUT: true; the input reads as it did. -/
def floorMarksSpec : ChangeSpec := { name := "floorMarks", fn := fun _ => fun
  | [d1, d2, d3] => { results := [.lit (.bool true)], args := [d1, d2, d3] }
  | _ => none }
def floorMarksRow : OpenClaim := { program := "ytjgbgmedbfhgdaagreat", sum := "8ba062a24d0eb944b47b327756f7510992829eaf8546906d0a888c4d8421223b", func := "bonsai/bonsailaw18.FloorMarks", spec := "floorMarks", inPlace := ["slices.overlaps[bonsai/api.Mark]", "slices.overlaps[bonsai/api.Move]", "slices.overlaps[bonsai/api.Row]"], unfollowed := true, recurses := true, apart := false }
def FloorMarksSaid : Prop := floorMarksRow.holds Tryz.pinned (OpenSpec.ofChange floorMarksSpec)

/-- ITS FALSE NEIGHBOUR: 'it returns false'. Refute it at one input. -/
def floorMarksWrong : ChangeSpec := { name := "floorMarks", fn := fun _ => fun
  | [d1, d2, d3] => { results := [.lit (.bool false)], args := [d1, d2, d3] }
  | _ => none }
def FloorMarksWrongFalsely : Prop := floorMarksRow.holds Tryz.pinned (OpenSpec.ofChange floorMarksWrong)

/- THE SECOND FORM. 'bulk': how many values and letters a reading holds, each counted each time it is reached (what is shared counts as often as it is met; a slice's spare places count too). A statement '..UptoSaid' is the law's where the arguments, and the package variables that the reading takes, are together of bulk at most 1048576: NARROWER than '..Said'. Prove '..Said' where nothing that the law and all that it calls make is longer than what came in: it says more and counts as full. Else prove '..UptoSaid'. A law counts once. -/
mutual
def uptoBulk {H : Type} : DataW H → Nat
  | .lit (.string bytes) => bytes.length + 1
  | .lit _ => 1
  | .nil => 1
  | .ptr d => uptoBulk d + 1
  | .slice elems spare => uptoBulkAll elems + uptoBulkAll spare + 1
  | .agg parts => uptoBulkAll parts + 1
  | .iface _ d => uptoBulk d + 1
  | .map entries => uptoBulkEntries entries + 1
  | .held _ => 1
def uptoBulkAll {H : Type} : List (DataW H) → Nat
  | [] => 0
  | d :: r => uptoBulk d + uptoBulkAll r
def uptoBulkEntries {H : Type} : List (Lit × DataW H) → Nat
  | [] => 0
  | x :: r => uptoBulkEntry x + uptoBulkEntries r
def uptoBulkEntry {H : Type} : Lit × DataW H → Nat
  | (.string bytes, d) => bytes.length + uptoBulk d + 1
  | (_, d) => uptoBulk d + 1
 end
def uptoSmall : (H : Type) → List (DataW H) → Bool := fun _ ds => decide (uptoBulkAll ds ≤ 1048576)
def OpenSpec.upto (s : _root_.Go.ChangeSpec) : _root_.Go.OpenSpec := { _root_.Go.OpenSpec.ofChange s with cond := some uptoSmall }

/-- 'bonsailaw18.FloorTells', WHERE WHAT IT READS IS OF BULK AT MOST 1048576: true; the input reads as it did. -/
def floorTellsUptoRow : OpenClaim := { program := "ytjgbgmedbfhgdaagreat", sum := "8ba062a24d0eb944b47b327756f7510992829eaf8546906d0a888c4d8421223b", func := "bonsai/bonsailaw18.FloorTells", spec := "floorTells", inPlace := ["slices.overlaps[bonsai/api.Mark]", "slices.overlaps[bonsai/api.Move]", "slices.overlaps[bonsai/api.Row]"], unfollowed := true, recurses := true, apart := false, narrowed := true }
def FloorTellsUptoSaid : Prop := floorTellsUptoRow.holds Tryz.pinned (OpenSpec.upto floorTellsSpec)

/-- 'bonsailaw18.FloorMerges', WHERE WHAT IT READS IS OF BULK AT MOST 1048576: true; the input reads as it did. -/
def floorMergesUptoRow : OpenClaim := { program := "ytjgbgmedbfhgdaagreat", sum := "8ba062a24d0eb944b47b327756f7510992829eaf8546906d0a888c4d8421223b", func := "bonsai/bonsailaw18.FloorMerges", spec := "floorMerges", inPlace := ["slices.overlaps[bonsai/api.Mark]", "slices.overlaps[bonsai/api.Move]", "slices.overlaps[bonsai/api.Row]"], unfollowed := true, recurses := true, apart := false, narrowed := true }
def FloorMergesUptoSaid : Prop := floorMergesUptoRow.holds Tryz.pinned (OpenSpec.upto floorMergesSpec)

/-- 'bonsailaw18.FloorMay', WHERE WHAT IT READS IS OF BULK AT MOST 1048576: true; the input reads as it did. -/
def floorMayUptoRow : OpenClaim := { program := "ytjgbgmedbfhgdaagreat", sum := "8ba062a24d0eb944b47b327756f7510992829eaf8546906d0a888c4d8421223b", func := "bonsai/bonsailaw18.FloorMay", spec := "floorMay", inPlace := ["slices.overlaps[bonsai/api.Mark]", "slices.overlaps[bonsai/api.Move]", "slices.overlaps[bonsai/api.Row]"], unfollowed := true, recurses := true, apart := false, narrowed := true }
def FloorMayUptoSaid : Prop := floorMayUptoRow.holds Tryz.pinned (OpenSpec.upto floorMaySpec)

/-- 'bonsailaw18.FloorKeeps', WHERE WHAT IT READS IS OF BULK AT MOST 1048576: true; the input reads as it did. -/
def floorKeepsUptoRow : OpenClaim := { program := "ytjgbgmedbfhgdaagreat", sum := "8ba062a24d0eb944b47b327756f7510992829eaf8546906d0a888c4d8421223b", func := "bonsai/bonsailaw18.FloorKeeps", spec := "floorKeeps", inPlace := ["slices.overlaps[bonsai/api.Mark]", "slices.overlaps[bonsai/api.Move]", "slices.overlaps[bonsai/api.Row]"], unfollowed := true, recurses := true, apart := false, narrowed := true }
def FloorKeepsUptoSaid : Prop := floorKeepsUptoRow.holds Tryz.pinned (OpenSpec.upto floorKeepsSpec)

/-- 'bonsailaw18.FloorOrder', WHERE WHAT IT READS IS OF BULK AT MOST 1048576: true; the input reads as it did. -/
def floorOrderUptoRow : OpenClaim := { program := "ytjgbgmedbfhgdaagreat", sum := "8ba062a24d0eb944b47b327756f7510992829eaf8546906d0a888c4d8421223b", func := "bonsai/bonsailaw18.FloorOrder", spec := "floorOrder", inPlace := ["slices.overlaps[bonsai/api.Mark]", "slices.overlaps[bonsai/api.Move]", "slices.overlaps[bonsai/api.Row]"], unfollowed := true, recurses := true, apart := false, narrowed := true }
def FloorOrderUptoSaid : Prop := floorOrderUptoRow.holds Tryz.pinned (OpenSpec.upto floorOrderSpec)

/-- 'bonsailaw18.FloorTwice', WHERE WHAT IT READS IS OF BULK AT MOST 1048576: true; the input reads as it did. -/
def floorTwiceUptoRow : OpenClaim := { program := "ytjgbgmedbfhgdaagreat", sum := "8ba062a24d0eb944b47b327756f7510992829eaf8546906d0a888c4d8421223b", func := "bonsai/bonsailaw18.FloorTwice", spec := "floorTwice", inPlace := ["slices.overlaps[bonsai/api.Mark]", "slices.overlaps[bonsai/api.Move]", "slices.overlaps[bonsai/api.Row]"], unfollowed := true, recurses := true, apart := false, narrowed := true }
def FloorTwiceUptoSaid : Prop := floorTwiceUptoRow.holds Tryz.pinned (OpenSpec.upto floorTwiceSpec)

/-- 'bonsailaw18.FloorMarks', WHERE WHAT IT READS IS OF BULK AT MOST 1048576: true; the input reads as it did. -/
def floorMarksUptoRow : OpenClaim := { program := "ytjgbgmedbfhgdaagreat", sum := "8ba062a24d0eb944b47b327756f7510992829eaf8546906d0a888c4d8421223b", func := "bonsai/bonsailaw18.FloorMarks", spec := "floorMarks", inPlace := ["slices.overlaps[bonsai/api.Mark]", "slices.overlaps[bonsai/api.Move]", "slices.overlaps[bonsai/api.Row]"], unfollowed := true, recurses := true, apart := false, narrowed := true }
def FloorMarksUptoSaid : Prop := floorMarksUptoRow.holds Tryz.pinned (OpenSpec.upto floorMarksSpec)

end Rows
end Go.Proofs.YtjgbgmedbfhgdaaGreat
