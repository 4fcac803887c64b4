/- Rows of this seat: for every input the law returns true, and each argument reads behind the call as it read before. No condition beyond the row’s own. -/
import Derived.Test.YtgoenohknokcmaaGreatRows
import Derived.Test.YtgoenohknokcmaaGreatSg
import Derived.Test.YtgoenohknokcmaaGreatAd
import Derived.Test.YtgoenohknokcmaaGreatTo
import Derived.ProofKit
set_option linter.unusedVariables false
set_option linter.unusedSimpArgs false
set_option maxRecDepth 100000
namespace Go.Proofs.YtgoenohknokcmaaGreat
open Go.ChangeShapes Go.WideShapes Go.ChangeAt Go.RowKit
theorem Tryz.own:ownKnob Tryz.prog.godebug=none:=by kernel_rfl
theorem Tryz.laidOut:laidOutB Tryz.prog=true:=by kernel_rfl
theorem topEngine_lifted (os:Os) (started:os.Started) (H:Type) (enc:TypeId×Value->H):
  ReturnsInHanded {} Tryz.checked os 7 .any (Rows.topEngineSpec.pre6 enc Tryz.prog Tryz.f7 Rows.topEngineRow.domain false) (Rows.topEngineSpec.post enc Tryz.prog Tryz.f7 false true false false):=by
 refine returnsInHanded_of_change (C:=Tryz.checked) Tryz.own started (by kernel_rfl) Tryz.func7
  (ChangeSpec.witness6 (enc:=enc) (C:=Tryz.checked) false ⟨#[],#[.slice none 0 0],[]⟩ 8 (by kernel_rfl) (by kernel_rfl) (by kernel_rfl) (by kernel_rfl)) ?_
 intro W base args ds gs before hval hW hcnd _
 refine Go.AM.We (P:=Tryz.prog) (fn:=Tryz.f7) (tb:=4) (L:=[[.slc [.int .i64,.int .i64,.int .i64,.int .i64,.str,.flt .f64]]]) Go.AM.Au rfl (by kernel_rfl) (by kernel_rfl) (by kernel_rfl) Tryz.laidOut (by kernel_rfl) (fun H ds h=> ?_) (fun cs h=> ?_) hval hW
 ·match ds,h with
  | [d0],_=>rfl
 ·obtain ⟨c0,_,rfl,h0,t0⟩:=h.cons_inv
  obtain ⟨v0,rfl,f0⟩:=Go.AM.Wn h0
  cases t0.nil_inv
  exact Go.AM.zf v0 f0
theorem topEngine_holds:Rows.TopEngineSaid:=
 OpenClaim.holds_of_wide 7 Tryz.f7 rfl rfl rfl rfl rfl rfl rfl ⟨rfl,rfl,rfl,rfl,rfl⟩ rfl rfl rfl rfl rfl (by kernel_rfl) Tryz.func7 (by kernel_rfl)
  (of_decide_eq_true (by kernel_rfl)) (by unfold Func.isWrapper;first | (rw [if_pos (by decide+kernel)];kernel_rfl) | (rw [if_neg (by decide+kernel)];exact ⟨rfl,rfl⟩))
  (fun os started H enc _=>topEngine_lifted os started H enc)
end Go.Proofs.YtgoenohknokcmaaGreat
