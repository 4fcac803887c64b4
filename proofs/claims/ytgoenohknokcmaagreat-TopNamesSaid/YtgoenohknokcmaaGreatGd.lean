/- The deferred guards, where nothing has panicked. -/
import Derived.Test.YtgoenohknokcmaaGreatCk
open Go.Proofs.Tryz renaming prog->ab,f196->ao,f221->aB
open Go.Value renaming nilIface->ad
open Array renaming replicate->al
set_option linter.unusedVariables false
set_option linter.unusedSimpArgs false
set_option maxRecDepth 100000
namespace Go.AM
open Go.Proofs Go.RowKit
theorem zK: ∀(args:Array Value) (w:World),CallsD ab 196 args .returning w λe u' w'=>(∃v,e= .returned v)/\u'= .returning/\w'=w:=by
 intro args w
 have hf:ab.funcs[196]? =some ao:=by kernel_rfl
 have hn:ao.ntmps=10:=by kernel_rfl
 have h0:ab.underlying 20=some (.interface #[]):=by kernel_rfl
 refine callsD_of_wpS hf (c:=_) rfl λf cs hc=> ?_
 rw [hn]
 have hsz:5<=(args++al (10 - args.size) undef).size:=by simp;omega
 generalize args++al (10 - args.size) undef=tmps at hsz
 apply wpS_seq
 apply wpS_region
 simp [wpOpsS,go_sem,recoverD,hc,Exit.thenS]
 rw [if_pos (by omega)]
 generalize g:(tmps.setIfInBounds 2 ad).setIfInBounds 1 ad=T1
 have i:T1.size=tmps.size:=by rw [<-g];simp
 have b:T1[1]? =some ad:=by rw [<-g];rw [Array.getElem?_setIfInBounds];rw [if_pos rfl,if_pos (by simp;omega)]
 apply wpS_seq
 apply wpS_region
 have a:(binOp .neq 20 .nilIface .nilIface).run ab w= .ok (.bool false) w:=by rfl
 have d: ∀x v,(eqGuard .neq 20 x (.const v) .nilIface .nilIface).run ab w= .ok () w:=by intro x v;simp [eqGuard,go_sem]
 have h:3 < T1.size:=by omega
 simp [wpOpsS,go_sem,Exit.thenS,b,h,a,d]
 refine wpS_cond (t:=false) (by simp [Act.eval];omega) ?_
 simp only [Bool.false_eq_true,if_false]
 exact wpS_of_wp (wp_skip ⟨rfl,.returning,by rw [<-hc],_,results_none rfl _ _ _,⟨_,rfl⟩,rfl,rfl⟩)
theorem uk:Fl ab 196:=⟨enters_of (f:=ao) (by kernel_rfl) (by kernel_rfl) (by kernel_rfl),zK⟩
theorem oU: ∀g,gy g=true->Fl ab g:= λg h=>by
 have:g=196:=by simpa [gy] using h
 subst this
 exact uk
theorem HK: ∀(args:Array Value) (w:World),CallsD ab 221 args .returning w λe u' w'=>(∃v,e= .returned v)/\u'= .returning/\w'=w:=by
 intro args w
 have hf:ab.funcs[221]? =some aB:=by kernel_rfl
 have hn:aB.ntmps=7:=by kernel_rfl
 have h0:ab.underlying 20=some (.interface #[]):=by kernel_rfl
 refine callsD_of_wpS hf (c:=_) rfl λf cs hc=> ?_
 rw [hn]
 have hsz:5<=(args++al (7 - args.size) undef).size:=by simp;omega
 generalize args++al (7 - args.size) undef=tmps at hsz
 apply wpS_seq
 apply wpS_region
 simp [wpOpsS,go_sem,recoverD,hc,Exit.thenS]
 rw [if_pos (by omega)]
 generalize g:(tmps.setIfInBounds 2 ad).setIfInBounds 1 ad=T1
 have i:T1.size=tmps.size:=by rw [<-g];simp
 have b:T1[1]? =some ad:=by rw [<-g];rw [Array.getElem?_setIfInBounds];rw [if_pos rfl,if_pos (by simp;omega)]
 apply wpS_seq
 apply wpS_region
 have a:(binOp .neq 20 .nilIface .nilIface).run ab w= .ok (.bool false) w:=by rfl
 have d: ∀x v,(eqGuard .neq 20 x (.const v) .nilIface .nilIface).run ab w= .ok () w:=by intro x v;simp [eqGuard,go_sem]
 have h:3 < T1.size:=by omega
 simp [wpOpsS,go_sem,Exit.thenS,b,h,a,d]
 refine wpS_cond (t:=false) (by simp [Act.eval];omega) ?_
 simp only [Bool.false_eq_true,if_false]
 exact wpS_of_wp (wp_skip ⟨rfl,.returning,by rw [<-hc],_,results_none rfl _ _ _,⟨_,rfl⟩,rfl,rfl⟩)
theorem zE:Fl ab 221:=⟨enters_of (f:=aB) (by kernel_rfl) (by kernel_rfl) (by kernel_rfl),HK⟩
theorem tG: ∀g,m4 g=true->Fl ab g:= λg h=>by
 have:g=221:=by simpa [m4] using h
 subst this
 exact zE
end Go.AM
