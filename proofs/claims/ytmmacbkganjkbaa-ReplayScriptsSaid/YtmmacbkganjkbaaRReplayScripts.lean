/- Rows of this seat: for every input the law returns true, and each argument reads behind the call as it read before. No condition beyond the row’s own. -/
import Derived.Test.YtmmacbkganjkbaaRows
import Derived.Test.YtmmacbkganjkbaaSg
import Derived.Test.YtmmacbkganjkbaaAd
import Derived.Test.YtmmacbkganjkbaaReH
import Derived.ProofKit
set_option linter.unusedVariables false
set_option linter.unusedSimpArgs false
set_option maxRecDepth 100000
namespace Go.Proofs.Ytmmacbkganjkbaa
open Go.ChangeShapes Go.WideShapes Go.ChangeAt Go.RowKit
theorem Try.own : ownKnob Try.prog.godebug = none := by kernel_rfl
theorem Try.laidOut : laidOutB Try.prog = true := by kernel_rfl
theorem replayScripts_lifted (os : Os) (started : os.Started) (H : Type) (enc : TypeId × Value → H) :
    ReturnsInHanded {} Try.checked os 7 .any (Rows.replayScriptsSpec.pre6 enc Try.prog Try.f7 Rows.replayScriptsRow.domain false) (Rows.replayScriptsSpec.post enc Try.prog Try.f7 false true false false) := by
  refine returnsInHanded_of_change (C := Try.checked) Try.own started (by kernel_rfl) Try.func7
    (ChangeSpec.witness6 (enc := enc) (C := Try.checked) false ⟨#[], #[.slice none 0 0, .slice none 0 0], []⟩ 8 (by kernel_rfl) (by kernel_rfl) (by kernel_rfl) (by kernel_rfl)) ?_
  intro W base args ds gs before hval hW hcnd _
  refine Go.AM.law_post (P := Try.prog) (fn := Try.f7) (tb := 4) (L := [[.slc [.int .i64, .int .i64, .str, .flt .f64]], [.slc [.int .i64, .int .i64, .int .i64, .int .i64, .str, .flt .f64]]]) Go.AM.sig_law16_ReplayScripts rfl (by kernel_rfl) (by kernel_rfl) (by kernel_rfl) Try.laidOut (by kernel_rfl) (fun H ds h => ?_) (fun cs h => ?_) hval hW
  · match ds, h with
    | [d0, d1], _ => rfl
  · obtain ⟨c0, _, rfl, h0, t0⟩ := h.cons_inv
    obtain ⟨v0, rfl, f0⟩ := Go.AM.rowsB_inv h0
    obtain ⟨c1, _, rfl, h1, t1⟩ := t0.cons_inv
    obtain ⟨v1, rfl, f1⟩ := Go.AM.mvsB_inv h1
    cases t1.nil_inv
    exact Go.AM.law16_ReplayScripts_true v0 v1 f0 f1
theorem replayScripts_holds : Rows.ReplayScriptsSaid :=
  OpenClaim.holds_of_wide 7 Try.f7 rfl rfl rfl rfl rfl rfl rfl ⟨rfl, rfl, rfl, rfl, rfl⟩ rfl rfl rfl rfl rfl (by kernel_rfl) Try.func7 (by kernel_rfl)
    (of_decide_eq_true (by kernel_rfl)) (by unfold Func.isWrapper; first | (rw [if_pos (by decide +kernel)]; kernel_rfl) | (rw [if_neg (by decide +kernel)]; exact ⟨rfl, rfl⟩))
    (fun os started H enc _ => replayScripts_lifted os started H enc)
end Go.Proofs.Ytmmacbkganjkbaa
