/- Rows of this seat: for every input the law returns true, and each argument reads behind the call as it read before. No condition beyond the row’s own. -/
import Derived.Test.YtmmacbkganjkbaaRows
import Derived.Test.YtmmacbkganjkbaaSg
import Derived.Test.YtmmacbkganjkbaaAd
import Derived.Test.YtmmacbkganjkbaaRe
import Derived.ProofKit
set_option linter.unusedVariables false
set_option linter.unusedSimpArgs false
set_option maxRecDepth 100000
namespace Go.Proofs.Ytmmacbkganjkbaa
open Go.ChangeShapes Go.WideShapes Go.ChangeAt Go.RowKit
theorem Try.own : ownKnob Try.prog.godebug = none := by kernel_rfl
theorem Try.laidOut : laidOutB Try.prog = true := by kernel_rfl
theorem replayNil_lifted (os : Os) (started : os.Started) (H : Type) (enc : TypeId × Value → H) :
    ReturnsInHanded {} Try.checked os 8 .any (Rows.replayNilSpec.pre6 enc Try.prog Try.f8 Rows.replayNilRow.domain false) (Rows.replayNilSpec.post enc Try.prog Try.f8 false true false false) := by
  refine returnsInHanded_of_change (C := Try.checked) Try.own started (by kernel_rfl) Try.func8
    (ChangeSpec.witness6 (enc := enc) (C := Try.checked) false ⟨#[], #[.agg #[.int .i64 0, .int .i64 0, .int .i64 0, .int .i64 0, .string ⟨#[]⟩, .float .f64 0]], []⟩ 8 (by kernel_rfl) (by kernel_rfl) (by kernel_rfl) (by kernel_rfl)) ?_
  intro W base args ds gs before hval hW hcnd _
  refine Go.AM.law_post (P := Try.prog) (fn := Try.f8) (tb := 4) (L := [[.int .i64, .int .i64, .int .i64, .int .i64, .str, .flt .f64]]) Go.AM.sig_law16_ReplayNil rfl (by kernel_rfl) (by kernel_rfl) (by kernel_rfl) Try.laidOut (by kernel_rfl) (fun H ds h => ?_) (fun cs h => ?_) hval hW
  · match ds, h with
    | [d0], _ => rfl
  · obtain ⟨c0, _, rfl, h0, t0⟩ := h.cons_inv
    obtain ⟨m0, rfl, f0⟩ := Go.AM.mvB_inv h0
    cases t0.nil_inv
    exact Go.AM.law16_ReplayNil_true m0 f0
theorem replayNil_holds : Rows.ReplayNilSaid :=
  OpenClaim.holds_of_wide 8 Try.f8 rfl rfl rfl rfl rfl rfl rfl ⟨rfl, rfl, rfl, rfl, rfl⟩ rfl rfl rfl rfl rfl (by kernel_rfl) Try.func8 (by kernel_rfl)
    (of_decide_eq_true (by kernel_rfl)) (by unfold Func.isWrapper; first | (rw [if_pos (by decide +kernel)]; kernel_rfl) | (rw [if_neg (by decide +kernel)]; exact ⟨rfl, rfl⟩))
    (fun os started H enc _ => replayNil_lifted os started H enc)
end Go.Proofs.Ytmmacbkganjkbaa
