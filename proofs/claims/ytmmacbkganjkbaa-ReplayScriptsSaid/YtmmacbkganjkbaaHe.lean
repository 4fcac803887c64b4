/- Walks by hand: steps backward. -/
import Derived.Test.YtmmacbkganjkbaaHd
import Derived.Test.YtmmacbkganjkbaaAe
set_option linter.unusedVariables false
set_option linter.unusedSimpArgs false
set_option maxRecDepth 100000
namespace Go.AM
open Go.Proofs Go.RowKit Go.Shelf

 attribute [local go_sem] Oper.semAt_some run_store_flt

/-- What the rounds keep: the steps' variable, and their block. -/
def KpB (n B b : Nat) (w w' : World) : Prop := w'.heap[B]? = w.heap[B]? ∧ (0 < n → w'.heap[b]? = w.heap[b]?)
theorem KpB.refl (n B b : Nat) (w : World) : KpB n B b w w := ⟨rfl, fun _ => rfl⟩
theorem KpB.trans {n B b : Nat} {w w1 w2 : World} (h : KpB n B b w w1) (k : KpB n B b w1 w2) : KpB n B b w w2 := ⟨k.1.trans h.1, fun x => (k.2 x).trans (h.2 x)⟩
theorem Own2.and {β : Type} {B : Nat} {I I' : β → World → Prop} (h : Own2 B I) (h' : Own2 B I') : Own2 B (fun s W => I s W ∧ I' s W) := fun s W W' row hs hg hr => ⟨h s W W' row hs.1 hg hr, h' s W W' row hs.2 hg hr⟩

end Go.AM
