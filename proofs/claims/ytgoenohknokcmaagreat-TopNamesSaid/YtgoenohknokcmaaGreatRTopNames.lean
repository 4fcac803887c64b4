/- Rows of this seat: for every input the law returns true, and each argument reads behind the call as it read before. No condition beyond the row’s own. -/
import Derived.Test.YtgoenohknokcmaaGreatRows
import Derived.Test.YtgoenohknokcmaaGreatSg
import Derived.Test.YtgoenohknokcmaaGreatAd
import Derived.Test.YtgoenohknokcmaaGreatWo
import Derived.ProofKit
set_option linter.unusedVariables false
set_option linter.unusedSimpArgs false
set_option maxRecDepth 100000
namespace Go.Proofs.YtgoenohknokcmaaGreat
open Go.ChangeShapes Go.WideShapes Go.ChangeAt Go.RowKit
theorem Tryz.own:ownKnob Tryz.prog.godebug=none:=by kernel_rfl
theorem Tryz.laidOut:laidOutB Tryz.prog=true:=by kernel_rfl
theorem topNames_lifted (os:Os) (started:os.Started) (H:Type) (enc:TypeId×Value->H):
  ReturnsInHanded {} Tryz.checked os 6 .any (Rows.topNamesSpec.pre6 enc Tryz.prog Tryz.f6 Rows.topNamesRow.domain false) (Rows.topNamesSpec.post enc Tryz.prog Tryz.f6 false true false false):=by
 refine returnsInHanded_of_change (C:=Tryz.checked) Tryz.own started (by kernel_rfl) Tryz.func6
  (ChangeSpec.witness6 (enc:=enc) (C:=Tryz.checked) false ⟨#[],#[.int .i64 0,.slice none 0 0],[]⟩ 8 (by kernel_rfl) (by kernel_rfl) (by kernel_rfl) (by kernel_rfl)) ?_
 intro W base args ds gs before hval hW hcnd _
 refine Go.AM.aa2 (P:=Tryz.prog) (fn:=Tryz.f6) (tb:=4) (L:=[[.int .i64],[.slc [.int .i64,.int .i64,.int .i64,.int .i64,.int .i64,.int .i64,.str,.flt .f64]]]) Go.AM.HT rfl (by kernel_rfl) (by kernel_rfl) (by kernel_rfl) Tryz.laidOut (by kernel_rfl) (fun H ds h=> ?_) (fun cs h=> ?_) hval hW
 ·match ds,h with
  | [d0,d1],_=>rfl
 ·obtain ⟨c0,_,rfl,h0,t0⟩:=h.cons_inv
  obtain ⟨v0,rfl,b0,b0'⟩:=Go.AM.acv h0
  obtain ⟨c1,_,rfl,h1,t1⟩:=t0.cons_inv
  obtain ⟨v1,rfl,f1⟩:=Go.AM.adi h1
  cases t1.nil_inv
  exact Go.AM.Gg v0 v1 f1
theorem topNames_holds:Rows.TopNamesSaid:=
 OpenClaim.holds_of_wide 6 Tryz.f6 rfl rfl rfl rfl rfl rfl rfl ⟨rfl,rfl,rfl,rfl,rfl⟩ rfl rfl rfl rfl rfl (by kernel_rfl) Tryz.func6 (by kernel_rfl)
  (of_decide_eq_true (by kernel_rfl)) (by unfold Func.isWrapper;first | (rw [if_pos (by decide+kernel)];kernel_rfl) | (rw [if_neg (by decide+kernel)];exact ⟨rfl,rfl⟩))
  (fun os started H enc _=>topNames_lifted os started H enc)
end Go.Proofs.YtgoenohknokcmaaGreat
