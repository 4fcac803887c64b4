/-
  No cell of these rows narrows 'for every input' (looked for: loops, veiled, ifaces, maps, wideKeys, modest, calm, conditions, laid).
  DERIVED. THE GIVEN ROWS OF THIS SEAT. 12 by the template 'for every input the law returns true; each argument reads behind the call as it read before'; 0 by the template 'total and deterministic' (their statements: YtcnafacmpplhbaaTotals.lean).
  GIVEN WITH THE SEED: the statements are not yours to turn. If you find one false, say at which input.
  Laid BY PROGRAM, IN A SANDBOX (cutbox-rows.mjs): the forced cells as the released guide's own fill.sh prints them over the translation bad6b05c921f8473… (all of the seat's roots in one cut). By AI agents, Wed Nov 11 2026. No macro, syntax, notation, axiom, sorry.
-/
import Derived.Test.YtcnafacmpplhbaaChecked
import GoSem.Claim
import GoSem.ClaimJoined
import GoSem.ClaimMapViews
import Derived.JoinedTies
import Derived.KernelRfl
namespace Go.Proofs.Ytcnafacmpplhbaa
/- THE CELL 'sum', in the pinned program and in every row, IS THE sha256 OF THE DUMP (.gsa) THAT YtcnafacmpplhbaaProg.lean LOADS. Nothing in Lean hashes anything: it is a label: what it is worth is what the hold of that sum in a sandbox is worth. -/
noncomputable def Try.pinned : Pinned := { name := "ytcnafacmpplhbaa", sum := "bad6b05c921f8473819a936d4198676da7a7abd93ee07431c27dc79c5886f1fd", checked := Try.checked }
namespace Rows
def none {H : Type} : Left H := { results := [], args := [] }

/-- 'bonsailaw14.FoldDoes': WHATEVER THE INPUT: true; the input reads as it did. -/
def foldDoesSpec : ChangeSpec := { name := "foldDoes", fn := fun _ => fun
  | [d1, d2] => { results := [.lit (.bool true)], args := [d1, d2] }
  | _ => none }
def foldDoesRow : OpenClaim := { program := "ytcnafacmpplhbaa", sum := "bad6b05c921f8473819a936d4198676da7a7abd93ee07431c27dc79c5886f1fd", func := "bonsai/bonsailaw14.FoldDoes", spec := "foldDoes", inPlace := ["slices.overlaps[bonsai/api.Row]"], unfollowed := true, recurses := true, apart := false }
def FoldDoesSaid : Prop := foldDoesRow.holds Try.pinned (OpenSpec.ofChange foldDoesSpec)

/-- ITS FALSE NEIGHBOUR: 'it returns false'. Refute it at one input. -/
def foldDoesWrong : ChangeSpec := { name := "foldDoes", fn := fun _ => fun
  | [d1, d2] => { results := [.lit (.bool false)], args := [d1, d2] }
  | _ => none }
def FoldDoesWrongFalsely : Prop := foldDoesRow.holds Try.pinned (OpenSpec.ofChange foldDoesWrong)

/-- 'bonsailaw14.FoldAll': WHATEVER THE INPUT: true; the input reads as it did. -/
def foldAllSpec : ChangeSpec := { name := "foldAll", fn := fun _ => fun
  | [d1, d2] => { results := [.lit (.bool true)], args := [d1, d2] }
  | _ => none }
def foldAllRow : OpenClaim := { program := "ytcnafacmpplhbaa", sum := "bad6b05c921f8473819a936d4198676da7a7abd93ee07431c27dc79c5886f1fd", func := "bonsai/bonsailaw14.FoldAll", spec := "foldAll", inPlace := ["slices.overlaps[bonsai/api.Row]"], unfollowed := true, recurses := true, apart := false }
def FoldAllSaid : Prop := foldAllRow.holds Try.pinned (OpenSpec.ofChange foldAllSpec)

/-- ITS FALSE NEIGHBOUR: 'it returns false'. Refute it at one input. -/
def foldAllWrong : ChangeSpec := { name := "foldAll", fn := fun _ => fun
  | [d1, d2] => { results := [.lit (.bool false)], args := [d1, d2] }
  | _ => none }
def FoldAllWrongFalsely : Prop := foldAllRow.holds Try.pinned (OpenSpec.ofChange foldAllWrong)

/-- 'bonsailaw14.FoldParts': WHATEVER THE INPUT: true; the input reads as it did. -/
def foldPartsSpec : ChangeSpec := { name := "foldParts", fn := fun _ => fun
  | [d1, d2, d3] => { results := [.lit (.bool true)], args := [d1, d2, d3] }
  | _ => none }
def foldPartsRow : OpenClaim := { program := "ytcnafacmpplhbaa", sum := "bad6b05c921f8473819a936d4198676da7a7abd93ee07431c27dc79c5886f1fd", func := "bonsai/bonsailaw14.FoldParts", spec := "foldParts", inPlace := ["slices.overlaps[bonsai/api.Row]"], unfollowed := true, recurses := true, apart := false }
def FoldPartsSaid : Prop := foldPartsRow.holds Try.pinned (OpenSpec.ofChange foldPartsSpec)

/-- ITS FALSE NEIGHBOUR: 'it returns false'. Refute it at one input. -/
def foldPartsWrong : ChangeSpec := { name := "foldParts", fn := fun _ => fun
  | [d1, d2, d3] => { results := [.lit (.bool false)], args := [d1, d2, d3] }
  | _ => none }
def FoldPartsWrongFalsely : Prop := foldPartsRow.holds Try.pinned (OpenSpec.ofChange foldPartsWrong)

/-- 'bonsailaw14.FoldOthers': WHATEVER THE INPUT: true; the input reads as it did. -/
def foldOthersSpec : ChangeSpec := { name := "foldOthers", fn := fun _ => fun
  | [d1, d2, d3] => { results := [.lit (.bool true)], args := [d1, d2, d3] }
  | _ => none }
def foldOthersRow : OpenClaim := { program := "ytcnafacmpplhbaa", sum := "bad6b05c921f8473819a936d4198676da7a7abd93ee07431c27dc79c5886f1fd", func := "bonsai/bonsailaw14.FoldOthers", spec := "foldOthers", inPlace := ["slices.overlaps[bonsai/api.Row]"], unfollowed := true, recurses := true, apart := false }
def FoldOthersSaid : Prop := foldOthersRow.holds Try.pinned (OpenSpec.ofChange foldOthersSpec)

/-- ITS FALSE NEIGHBOUR: 'it returns false'. Refute it at one input. -/
def foldOthersWrong : ChangeSpec := { name := "foldOthers", fn := fun _ => fun
  | [d1, d2, d3] => { results := [.lit (.bool false)], args := [d1, d2, d3] }
  | _ => none }
def FoldOthersWrongFalsely : Prop := foldOthersRow.holds Try.pinned (OpenSpec.ofChange foldOthersWrong)

/-- 'bonsailaw14.FoldTree': WHATEVER THE INPUT: true; the input reads as it did. -/
def foldTreeSpec : ChangeSpec := { name := "foldTree", fn := fun _ => fun
  | [d1, d2] => { results := [.lit (.bool true)], args := [d1, d2] }
  | _ => none }
def foldTreeRow : OpenClaim := { program := "ytcnafacmpplhbaa", sum := "bad6b05c921f8473819a936d4198676da7a7abd93ee07431c27dc79c5886f1fd", func := "bonsai/bonsailaw14.FoldTree", spec := "foldTree", inPlace := ["slices.overlaps[bonsai/api.Row]"], unfollowed := true, recurses := true, apart := false }
def FoldTreeSaid : Prop := foldTreeRow.holds Try.pinned (OpenSpec.ofChange foldTreeSpec)

/-- ITS FALSE NEIGHBOUR: 'it returns false'. Refute it at one input. -/
def foldTreeWrong : ChangeSpec := { name := "foldTree", fn := fun _ => fun
  | [d1, d2] => { results := [.lit (.bool false)], args := [d1, d2] }
  | _ => none }
def FoldTreeWrongFalsely : Prop := foldTreeRow.holds Try.pinned (OpenSpec.ofChange foldTreeWrong)

/-- 'bonsailaw12.TreeTells': WHATEVER THE INPUT: true; the input reads as it did. -/
def treeTellsSpec : ChangeSpec := { name := "treeTells", fn := fun _ => fun
  | [d1, d2, d3] => { results := [.lit (.bool true)], args := [d1, d2, d3] }
  | _ => none }
def treeTellsRow : OpenClaim := { program := "ytcnafacmpplhbaa", sum := "bad6b05c921f8473819a936d4198676da7a7abd93ee07431c27dc79c5886f1fd", func := "bonsai/bonsailaw12.TreeTells", spec := "treeTells", inPlace := ["slices.overlaps[bonsai/api.Row]"], unfollowed := true, recurses := true, apart := false }
def TreeTellsSaid : Prop := treeTellsRow.holds Try.pinned (OpenSpec.ofChange treeTellsSpec)

/-- ITS FALSE NEIGHBOUR: 'it returns false'. Refute it at one input. -/
def treeTellsWrong : ChangeSpec := { name := "treeTells", fn := fun _ => fun
  | [d1, d2, d3] => { results := [.lit (.bool false)], args := [d1, d2, d3] }
  | _ => none }
def TreeTellsWrongFalsely : Prop := treeTellsRow.holds Try.pinned (OpenSpec.ofChange treeTellsWrong)

/-- 'bonsailaw12.TreeSets': WHATEVER THE INPUT: true; the input reads as it did. -/
def treeSetsSpec : ChangeSpec := { name := "treeSets", fn := fun _ => fun
  | [d1, d2, d3] => { results := [.lit (.bool true)], args := [d1, d2, d3] }
  | _ => none }
def treeSetsRow : OpenClaim := { program := "ytcnafacmpplhbaa", sum := "bad6b05c921f8473819a936d4198676da7a7abd93ee07431c27dc79c5886f1fd", func := "bonsai/bonsailaw12.TreeSets", spec := "treeSets", inPlace := ["slices.overlaps[bonsai/api.Row]"], unfollowed := true, recurses := true, apart := false }
def TreeSetsSaid : Prop := treeSetsRow.holds Try.pinned (OpenSpec.ofChange treeSetsSpec)

/-- ITS FALSE NEIGHBOUR: 'it returns false'. Refute it at one input. -/
def treeSetsWrong : ChangeSpec := { name := "treeSets", fn := fun _ => fun
  | [d1, d2, d3] => { results := [.lit (.bool false)], args := [d1, d2, d3] }
  | _ => none }
def TreeSetsWrongFalsely : Prop := treeSetsRow.holds Try.pinned (OpenSpec.ofChange treeSetsWrong)

/-- 'bonsailaw12.TreeOrder': WHATEVER THE INPUT: true; the input reads as it did. -/
def treeOrderSpec : ChangeSpec := { name := "treeOrder", fn := fun _ => fun
  | [d1, d2] => { results := [.lit (.bool true)], args := [d1, d2] }
  | _ => none }
def treeOrderRow : OpenClaim := { program := "ytcnafacmpplhbaa", sum := "bad6b05c921f8473819a936d4198676da7a7abd93ee07431c27dc79c5886f1fd", func := "bonsai/bonsailaw12.TreeOrder", spec := "treeOrder", inPlace := ["slices.overlaps[bonsai/api.Row]"], unfollowed := true, recurses := true, apart := false }
def TreeOrderSaid : Prop := treeOrderRow.holds Try.pinned (OpenSpec.ofChange treeOrderSpec)

/-- ITS FALSE NEIGHBOUR: 'it returns false'. Refute it at one input. -/
def treeOrderWrong : ChangeSpec := { name := "treeOrder", fn := fun _ => fun
  | [d1, d2] => { results := [.lit (.bool false)], args := [d1, d2] }
  | _ => none }
def TreeOrderWrongFalsely : Prop := treeOrderRow.holds Try.pinned (OpenSpec.ofChange treeOrderWrong)

/-- 'bonsailaw12.TreePaths': WHATEVER THE INPUT: true; the input reads as it did. -/
def treePathsSpec : ChangeSpec := { name := "treePaths", fn := fun _ => fun
  | [d1, d2] => { results := [.lit (.bool true)], args := [d1, d2] }
  | _ => none }
def treePathsRow : OpenClaim := { program := "ytcnafacmpplhbaa", sum := "bad6b05c921f8473819a936d4198676da7a7abd93ee07431c27dc79c5886f1fd", func := "bonsai/bonsailaw12.TreePaths", spec := "treePaths", inPlace := ["slices.overlaps[bonsai/api.Row]"], unfollowed := true, recurses := true, apart := false }
def TreePathsSaid : Prop := treePathsRow.holds Try.pinned (OpenSpec.ofChange treePathsSpec)

/-- ITS FALSE NEIGHBOUR: 'it returns false'. Refute it at one input. -/
def treePathsWrong : ChangeSpec := { name := "treePaths", fn := fun _ => fun
  | [d1, d2] => { results := [.lit (.bool false)], args := [d1, d2] }
  | _ => none }
def TreePathsWrongFalsely : Prop := treePathsRow.holds Try.pinned (OpenSpec.ofChange treePathsWrong)

/-- 'bonsailaw12.TreeKids': WHATEVER THE INPUT: true; the input reads as it did. -/
def treeKidsSpec : ChangeSpec := { name := "treeKids", fn := fun _ => fun
  | [d1, d2] => { results := [.lit (.bool true)], args := [d1, d2] }
  | _ => none }
def treeKidsRow : OpenClaim := { program := "ytcnafacmpplhbaa", sum := "bad6b05c921f8473819a936d4198676da7a7abd93ee07431c27dc79c5886f1fd", func := "bonsai/bonsailaw12.TreeKids", spec := "treeKids", inPlace := ["slices.overlaps[bonsai/api.Row]"], unfollowed := true, recurses := true, apart := false }
def TreeKidsSaid : Prop := treeKidsRow.holds Try.pinned (OpenSpec.ofChange treeKidsSpec)

/-- ITS FALSE NEIGHBOUR: 'it returns false'. Refute it at one input. -/
def treeKidsWrong : ChangeSpec := { name := "treeKids", fn := fun _ => fun
  | [d1, d2] => { results := [.lit (.bool false)], args := [d1, d2] }
  | _ => none }
def TreeKidsWrongFalsely : Prop := treeKidsRow.holds Try.pinned (OpenSpec.ofChange treeKidsWrong)

/-- 'bonsailaw12.TreeHangs': WHATEVER THE INPUT: true; the input reads as it did. -/
def treeHangsSpec : ChangeSpec := { name := "treeHangs", fn := fun _ => fun
  | [d1, d2, d3] => { results := [.lit (.bool true)], args := [d1, d2, d3] }
  | _ => none }
def treeHangsRow : OpenClaim := { program := "ytcnafacmpplhbaa", sum := "bad6b05c921f8473819a936d4198676da7a7abd93ee07431c27dc79c5886f1fd", func := "bonsai/bonsailaw12.TreeHangs", spec := "treeHangs", inPlace := ["slices.overlaps[bonsai/api.Row]"], unfollowed := true, recurses := true, apart := false }
def TreeHangsSaid : Prop := treeHangsRow.holds Try.pinned (OpenSpec.ofChange treeHangsSpec)

/-- ITS FALSE NEIGHBOUR: 'it returns false'. Refute it at one input. -/
def treeHangsWrong : ChangeSpec := { name := "treeHangs", fn := fun _ => fun
  | [d1, d2, d3] => { results := [.lit (.bool false)], args := [d1, d2, d3] }
  | _ => none }
def TreeHangsWrongFalsely : Prop := treeHangsRow.holds Try.pinned (OpenSpec.ofChange treeHangsWrong)

/-- 'bonsailaw12.TreeDrops': WHATEVER THE INPUT: true; the input reads as it did. -/
def treeDropsSpec : ChangeSpec := { name := "treeDrops", fn := fun _ => fun
  | [d1, d2] => { results := [.lit (.bool true)], args := [d1, d2] }
  | _ => none }
def treeDropsRow : OpenClaim := { program := "ytcnafacmpplhbaa", sum := "bad6b05c921f8473819a936d4198676da7a7abd93ee07431c27dc79c5886f1fd", func := "bonsai/bonsailaw12.TreeDrops", spec := "treeDrops", inPlace := ["slices.overlaps[bonsai/api.Row]"], unfollowed := true, recurses := true, apart := false }
def TreeDropsSaid : Prop := treeDropsRow.holds Try.pinned (OpenSpec.ofChange treeDropsSpec)

/-- ITS FALSE NEIGHBOUR: 'it returns false'. Refute it at one input. -/
def treeDropsWrong : ChangeSpec := { name := "treeDrops", fn := fun _ => fun
  | [d1, d2] => { results := [.lit (.bool false)], args := [d1, d2] }
  | _ => none }
def TreeDropsWrongFalsely : Prop := treeDropsRow.holds Try.pinned (OpenSpec.ofChange treeDropsWrong)

/- THE SECOND FORM. 'bulk': how many values and letters a reading holds, each counted each time it is reached (what is shared counts as often as it is met; a slice's spare places count too). A statement '..UptoSaid' is the law's where the arguments, and the package variables that the reading takes, are together of bulk at most 1048576: NARROWER than '..Said'. Prove '..Said' where nothing that the law and all that it calls make is longer than what came in: it says more and counts as full. Else prove '..UptoSaid'. A law counts once. -/
mutual
def uptoBulk {H : Type} : DataW H → Nat
  | .lit (.string bytes) => bytes.length + 1
  | .lit _ => 1
  | .nil => 1
  | .ptr d => uptoBulk d + 1
  | .slice elems spare => uptoBulkAll elems + uptoBulkAll spare + 1
  | .agg parts => uptoBulkAll parts + 1
  | .iface _ d => uptoBulk d + 1
  | .map entries => uptoBulkEntries entries + 1
  | .held _ => 1
def uptoBulkAll {H : Type} : List (DataW H) → Nat
  | [] => 0
  | d :: r => uptoBulk d + uptoBulkAll r
def uptoBulkEntries {H : Type} : List (Lit × DataW H) → Nat
  | [] => 0
  | x :: r => uptoBulkEntry x + uptoBulkEntries r
def uptoBulkEntry {H : Type} : Lit × DataW H → Nat
  | (.string bytes, d) => bytes.length + uptoBulk d + 1
  | (_, d) => uptoBulk d + 1
 end
def uptoSmall : (H : Type) → List (DataW H) → Bool := fun _ ds => decide (uptoBulkAll ds ≤ 1048576)
def OpenSpec.upto (s : _root_.Go.ChangeSpec) : _root_.Go.OpenSpec := { _root_.Go.OpenSpec.ofChange s with cond := some uptoSmall }

/-- 'bonsailaw14.FoldDoes', WHERE WHAT IT READS IS OF BULK AT MOST 1048576: true; the input reads as it did. -/
def foldDoesUptoRow : OpenClaim := { program := "ytcnafacmpplhbaa", sum := "bad6b05c921f8473819a936d4198676da7a7abd93ee07431c27dc79c5886f1fd", func := "bonsai/bonsailaw14.FoldDoes", spec := "foldDoes", inPlace := ["slices.overlaps[bonsai/api.Row]"], unfollowed := true, recurses := true, apart := false, narrowed := true }
def FoldDoesUptoSaid : Prop := foldDoesUptoRow.holds Try.pinned (OpenSpec.upto foldDoesSpec)

/-- 'bonsailaw14.FoldAll', WHERE WHAT IT READS IS OF BULK AT MOST 1048576: true; the input reads as it did. -/
def foldAllUptoRow : OpenClaim := { program := "ytcnafacmpplhbaa", sum := "bad6b05c921f8473819a936d4198676da7a7abd93ee07431c27dc79c5886f1fd", func := "bonsai/bonsailaw14.FoldAll", spec := "foldAll", inPlace := ["slices.overlaps[bonsai/api.Row]"], unfollowed := true, recurses := true, apart := false, narrowed := true }
def FoldAllUptoSaid : Prop := foldAllUptoRow.holds Try.pinned (OpenSpec.upto foldAllSpec)

/-- 'bonsailaw14.FoldParts', WHERE WHAT IT READS IS OF BULK AT MOST 1048576: true; the input reads as it did. -/
def foldPartsUptoRow : OpenClaim := { program := "ytcnafacmpplhbaa", sum := "bad6b05c921f8473819a936d4198676da7a7abd93ee07431c27dc79c5886f1fd", func := "bonsai/bonsailaw14.FoldParts", spec := "foldParts", inPlace := ["slices.overlaps[bonsai/api.Row]"], unfollowed := true, recurses := true, apart := false, narrowed := true }
def FoldPartsUptoSaid : Prop := foldPartsUptoRow.holds Try.pinned (OpenSpec.upto foldPartsSpec)

/-- 'bonsailaw14.FoldOthers', WHERE WHAT IT READS IS OF BULK AT MOST 1048576: true; the input reads as it did. -/
def foldOthersUptoRow : OpenClaim := { program := "ytcnafacmpplhbaa", sum := "bad6b05c921f8473819a936d4198676da7a7abd93ee07431c27dc79c5886f1fd", func := "bonsai/bonsailaw14.FoldOthers", spec := "foldOthers", inPlace := ["slices.overlaps[bonsai/api.Row]"], unfollowed := true, recurses := true, apart := false, narrowed := true }
def FoldOthersUptoSaid : Prop := foldOthersUptoRow.holds Try.pinned (OpenSpec.upto foldOthersSpec)

/-- 'bonsailaw14.FoldTree', WHERE WHAT IT READS IS OF BULK AT MOST 1048576: true; the input reads as it did. -/
def foldTreeUptoRow : OpenClaim := { program := "ytcnafacmpplhbaa", sum := "bad6b05c921f8473819a936d4198676da7a7abd93ee07431c27dc79c5886f1fd", func := "bonsai/bonsailaw14.FoldTree", spec := "foldTree", inPlace := ["slices.overlaps[bonsai/api.Row]"], unfollowed := true, recurses := true, apart := false, narrowed := true }
def FoldTreeUptoSaid : Prop := foldTreeUptoRow.holds Try.pinned (OpenSpec.upto foldTreeSpec)

/-- 'bonsailaw12.TreeTells', WHERE WHAT IT READS IS OF BULK AT MOST 1048576: true; the input reads as it did. -/
def treeTellsUptoRow : OpenClaim := { program := "ytcnafacmpplhbaa", sum := "bad6b05c921f8473819a936d4198676da7a7abd93ee07431c27dc79c5886f1fd", func := "bonsai/bonsailaw12.TreeTells", spec := "treeTells", inPlace := ["slices.overlaps[bonsai/api.Row]"], unfollowed := true, recurses := true, apart := false, narrowed := true }
def TreeTellsUptoSaid : Prop := treeTellsUptoRow.holds Try.pinned (OpenSpec.upto treeTellsSpec)

/-- 'bonsailaw12.TreeSets', WHERE WHAT IT READS IS OF BULK AT MOST 1048576: true; the input reads as it did. -/
def treeSetsUptoRow : OpenClaim := { program := "ytcnafacmpplhbaa", sum := "bad6b05c921f8473819a936d4198676da7a7abd93ee07431c27dc79c5886f1fd", func := "bonsai/bonsailaw12.TreeSets", spec := "treeSets", inPlace := ["slices.overlaps[bonsai/api.Row]"], unfollowed := true, recurses := true, apart := false, narrowed := true }
def TreeSetsUptoSaid : Prop := treeSetsUptoRow.holds Try.pinned (OpenSpec.upto treeSetsSpec)

/-- 'bonsailaw12.TreeOrder', WHERE WHAT IT READS IS OF BULK AT MOST 1048576: true; the input reads as it did. -/
def treeOrderUptoRow : OpenClaim := { program := "ytcnafacmpplhbaa", sum := "bad6b05c921f8473819a936d4198676da7a7abd93ee07431c27dc79c5886f1fd", func := "bonsai/bonsailaw12.TreeOrder", spec := "treeOrder", inPlace := ["slices.overlaps[bonsai/api.Row]"], unfollowed := true, recurses := true, apart := false, narrowed := true }
def TreeOrderUptoSaid : Prop := treeOrderUptoRow.holds Try.pinned (OpenSpec.upto treeOrderSpec)

/-- 'bonsailaw12.TreePaths', WHERE WHAT IT READS IS OF BULK AT MOST 1048576: true; the input reads as it did. -/
def treePathsUptoRow : OpenClaim := { program := "ytcnafacmpplhbaa", sum := "bad6b05c921f8473819a936d4198676da7a7abd93ee07431c27dc79c5886f1fd", func := "bonsai/bonsailaw12.TreePaths", spec := "treePaths", inPlace := ["slices.overlaps[bonsai/api.Row]"], unfollowed := true, recurses := true, apart := false, narrowed := true }
def TreePathsUptoSaid : Prop := treePathsUptoRow.holds Try.pinned (OpenSpec.upto treePathsSpec)

/-- 'bonsailaw12.TreeKids', WHERE WHAT IT READS IS OF BULK AT MOST 1048576: true; the input reads as it did. -/
def treeKidsUptoRow : OpenClaim := { program := "ytcnafacmpplhbaa", sum := "bad6b05c921f8473819a936d4198676da7a7abd93ee07431c27dc79c5886f1fd", func := "bonsai/bonsailaw12.TreeKids", spec := "treeKids", inPlace := ["slices.overlaps[bonsai/api.Row]"], unfollowed := true, recurses := true, apart := false, narrowed := true }
def TreeKidsUptoSaid : Prop := treeKidsUptoRow.holds Try.pinned (OpenSpec.upto treeKidsSpec)

/-- 'bonsailaw12.TreeHangs', WHERE WHAT IT READS IS OF BULK AT MOST 1048576: true; the input reads as it did. -/
def treeHangsUptoRow : OpenClaim := { program := "ytcnafacmpplhbaa", sum := "bad6b05c921f8473819a936d4198676da7a7abd93ee07431c27dc79c5886f1fd", func := "bonsai/bonsailaw12.TreeHangs", spec := "treeHangs", inPlace := ["slices.overlaps[bonsai/api.Row]"], unfollowed := true, recurses := true, apart := false, narrowed := true }
def TreeHangsUptoSaid : Prop := treeHangsUptoRow.holds Try.pinned (OpenSpec.upto treeHangsSpec)

/-- 'bonsailaw12.TreeDrops', WHERE WHAT IT READS IS OF BULK AT MOST 1048576: true; the input reads as it did. -/
def treeDropsUptoRow : OpenClaim := { program := "ytcnafacmpplhbaa", sum := "bad6b05c921f8473819a936d4198676da7a7abd93ee07431c27dc79c5886f1fd", func := "bonsai/bonsailaw12.TreeDrops", spec := "treeDrops", inPlace := ["slices.overlaps[bonsai/api.Row]"], unfollowed := true, recurses := true, apart := false, narrowed := true }
def TreeDropsUptoSaid : Prop := treeDropsUptoRow.holds Try.pinned (OpenSpec.upto treeDropsSpec)

end Rows
end Go.Proofs.Ytcnafacmpplhbaa
