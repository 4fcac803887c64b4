/- The deferred guards, where nothing has panicked. -/
import Derived.Test.YtgoenohknokcmaaGreatAd
import Derived.Test.YtgoenohknokcmaaGreatCk
import Derived.Test.YtgoenohknokcmaaGreatProg
import Derived.WalkKit
import Derived.Recover
set_option linter.unusedVariables false
set_option linter.unusedSimpArgs false
set_option maxRecDepth 100000
namespace Go.AM
open Go.Proofs Go.RowKit
theorem uN: ∀(args:Array Value) (w:World),CallsD Tryz.prog 196 args .returning w fun e u' w'=>(∃v,e= .returned v)/\u'= .returning/\w'=w:=by
 intro args w
 have hf:Tryz.prog.funcs[196]? =some Tryz.f196:=by kernel_rfl
 have hn:Tryz.f196.ntmps=10:=by kernel_rfl
 have h0:Tryz.prog.underlying 20=some (.interface #[]):=by kernel_rfl
 refine callsD_of_wpS hf (c:=_) rfl fun c₀ cs hc=> ?_
 rw [hn]
 have hsz:5<=(args++Array.replicate (10 - args.size) undef).size:=by simp;omega
 generalize args++Array.replicate (10 - args.size) undef=tmps at hsz
 apply wpS_seq
 apply wpS_region
 simp [wpOpsS,go_sem,recoverD,hc,Exit.thenS]
 rw [if_pos (by omega)]
 generalize hT:(tmps.setIfInBounds 2 Value.nilIface).setIfInBounds 1 Value.nilIface=T1
 have hT1:T1.size=tmps.size:=by rw [<-hT];simp
 have hT2:T1[1]? =some Value.nilIface:=by rw [<-hT];rw [Array.getElem?_setIfInBounds];rw [if_pos rfl,if_pos (by simp;omega)]
 apply wpS_seq
 apply wpS_region
 have hbin:(binOp .neq 20 .nilIface .nilIface).run Tryz.prog w= .ok (.bool false) w:=by rfl
 have hgu: ∀x v,(eqGuard .neq 20 x (.const v) .nilIface .nilIface).run Tryz.prog w= .ok () w:=by intro x v;simp [eqGuard,go_sem]
 have h3:3 < T1.size:=by omega
 simp [wpOpsS,go_sem,Exit.thenS,hT2,h3,hbin,hgu]
 refine wpS_cond (t:=false) (by simp [Act.eval];omega) ?_
 simp only [Bool.false_eq_true,if_false]
 exact wpS_of_wp (wp_skip ⟨rfl,.returning,by rw [<-hc],_,results_none rfl _ _ _,⟨_,rfl⟩,rfl,rfl⟩)
theorem pU:BQ Tryz.prog 196:=⟨enters_of (f:=Tryz.f196) (by kernel_rfl) (by kernel_rfl) (by kernel_rfl),uN⟩
theorem lh: ∀g,ep g=true->BQ Tryz.prog g:=fun g h=>by
 have:g=196:=by simpa [ep] using h
 subst this
 exact pU
theorem Cm: ∀(args:Array Value) (w:World),CallsD Tryz.prog 221 args .returning w fun e u' w'=>(∃v,e= .returned v)/\u'= .returning/\w'=w:=by
 intro args w
 have hf:Tryz.prog.funcs[221]? =some Tryz.f221:=by kernel_rfl
 have hn:Tryz.f221.ntmps=7:=by kernel_rfl
 have h0:Tryz.prog.underlying 20=some (.interface #[]):=by kernel_rfl
 refine callsD_of_wpS hf (c:=_) rfl fun c₀ cs hc=> ?_
 rw [hn]
 have hsz:5<=(args++Array.replicate (7 - args.size) undef).size:=by simp;omega
 generalize args++Array.replicate (7 - args.size) undef=tmps at hsz
 apply wpS_seq
 apply wpS_region
 simp [wpOpsS,go_sem,recoverD,hc,Exit.thenS]
 rw [if_pos (by omega)]
 generalize hT:(tmps.setIfInBounds 2 Value.nilIface).setIfInBounds 1 Value.nilIface=T1
 have hT1:T1.size=tmps.size:=by rw [<-hT];simp
 have hT2:T1[1]? =some Value.nilIface:=by rw [<-hT];rw [Array.getElem?_setIfInBounds];rw [if_pos rfl,if_pos (by simp;omega)]
 apply wpS_seq
 apply wpS_region
 have hbin:(binOp .neq 20 .nilIface .nilIface).run Tryz.prog w= .ok (.bool false) w:=by rfl
 have hgu: ∀x v,(eqGuard .neq 20 x (.const v) .nilIface .nilIface).run Tryz.prog w= .ok () w:=by intro x v;simp [eqGuard,go_sem]
 have h3:3 < T1.size:=by omega
 simp [wpOpsS,go_sem,Exit.thenS,hT2,h3,hbin,hgu]
 refine wpS_cond (t:=false) (by simp [Act.eval];omega) ?_
 simp only [Bool.false_eq_true,if_false]
 exact wpS_of_wp (wp_skip ⟨rfl,.returning,by rw [<-hc],_,results_none rfl _ _ _,⟨_,rfl⟩,rfl,rfl⟩)
theorem va:BQ Tryz.prog 221:=⟨enters_of (f:=Tryz.f221) (by kernel_rfl) (by kernel_rfl) (by kernel_rfl),Cm⟩
theorem pg: ∀g,jf g=true->BQ Tryz.prog g:=fun g h=>by
 have:g=221:=by simpa [jf] using h
 subst this
 exact va
end Go.AM
