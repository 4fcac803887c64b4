/- Walk by hand: tree.Reached: who is reached, whatever order the map gives. -/
import Derived.Test.YtgoenohknokcmaaGreatHq
import Derived.Test.YtgoenohknokcmaaGreatAe
import Derived.Sort.MapsRangeIn
import Derived.Sort.OwnSorted
import Derived.Lib.QuietBelowIn
import Derived.Lib.SlKeysI
import Derived.Test.YtgoenohknokcmaaGreatProg
set_option linter.unusedVariables false
set_option linter.unusedSimpArgs false
set_option maxRecDepth 100000
namespace Go.AM
open Go.Proofs Go.RowKit Go.Shelf Go.Maps Go.Sort
 attribute [local go_sem] Oper.semAt_some
theorem LF.mono {W:World} {B B':Nat} {o:Option (List Int)} {sv:Value} {b:Bool} (h:LF W B' o sv b) (hB:B<=B'):LF W B o sv b:=by
 cases o with
 | none=>exact h
 | some l=>
   refine ⟨h.1,h.2.1,?_⟩
   rcases h.2.2 with h0 | ⟨g,cap,cur,e,h1,h2⟩
   ·exact .inl h0
   ·exact .inr ⟨g,cap,cur,e,Nat.le_trans hB h1,h2⟩
theorem UA (nF:Nat) (h1:1<=nF) (w:World) (A:Option Addr) (b off cap:Nat) (ps:List (Int×Int)) (ss:Nat->ByteArray) (fs:Nat->Nat) (hA:0 < ps.length->A=some ⟨b,off,none⟩) (hlt:0 < ps.length->b < w.heap.size) (hmax:ps.length<=50000)
  (hwf: ∀p∈ps,(Lit.int .i64 p.1).wf=true/\(Lit.int .i64 p.2).wf=true) (hat:zM w b off ps ss fs) (c:Int) (hcw:(Lit.int .i64 c).wf=true)
  (hcon: ∀(W:World) (B:Nat) (v:Value) (zs:List Int) (x:Int),W.ownsRow B 3 1 v zs.length (zs.map encZ)->zs.length<=100000->Calls Tryz.prog 148 #[v,.int .i64 x] W fun e W'=>e= .returned (.bool (zs.contains x))/\Below W.heap.size W W'):
  CallsIn Fence.wide nF Tryz.prog 39 #[.slice A ps.length cap,.int .i64 c] w fun e W'=> ∃sv bb,e= .returned (.tuple #[sv,.bool bb])/\Below w.heap.size w W'/\LF W' w.heap.size (rS (lD ps) (cA ps).length c) sv bb:=by
 have hfn: ∀f,Fence.wide.fn f:=fun _=>trivial
 have hdep:Fence.wide.depth.isSome=false:=rfl
 have hf:Tryz.prog.funcs[39]? =some Tryz.f39:=by kernel_rfl
 have hn:Tryz.f39.ntmps=12:=by kernel_rfl
 have hp:=fun n=>zL n w A b off cap ps ss fs hA hlt (by omega) hwf hat
 refine callsIn_of_wp hf rfl trivial ?_ rfl
 simp only [hn,List.size_toArray,List.length_cons,List.length_nil,Nat.reduceAdd,Nat.reduceSub,Array.replicate_succ,Array.replicate_zero,List.push_toArray,List.append_toArray,List.nil_append,List.cons_append]
 gi_wp2_with (first
  | (gi_at_call 80;refine (hp _).mono ?_;rintro e w2 ⟨rfl,hM2,hB2⟩
     have hq:=callsIn_wide.1 (XH 1 (Nat.le_refl _) w2 w.heap.size (cA ps).length (lD ps) hM2 (Nat.le_trans (Bk ps) hmax) (MV hwf) c hcw hcon))
  | (gi_at_call 79;refine (callsIn_wide.2 hq).mono ?_;rintro e w3 ⟨sv,bb,rfl,hB3,hPR⟩)
  | gi_in)
 have hr:Tryz.f39.results= #[.tmp 4,.tmp 5]:=by kernel_rfl
 refine bodyPost_ret (v:= .tuple #[sv,.bool bb]) (by simp [results,hr,go_sem]) rfl ?_
 exact ⟨sv,bb,rfl,hB2.trans (hB3.mono hB2.size),hPR.mono hB2.size⟩
end Go.AM
