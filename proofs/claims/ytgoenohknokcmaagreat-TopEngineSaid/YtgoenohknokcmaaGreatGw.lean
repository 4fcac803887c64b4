/- slices.Grow walked, at nothing. -/
import Derived.Test.YtgoenohknokcmaaGreatAd
import Derived.Test.YtgoenohknokcmaaGreatProg
import Derived.WalkKit
import Derived.Lib.Walk
import Derived.Lib.SliceRun
set_option linter.unusedVariables false
set_option linter.unusedSimpArgs false
set_option maxRecDepth 100000
set_option maxHeartbeats 1000000
namespace Go.AM
open Go.Proofs Go.RowKit Go.Lib
theorem oK (w:World) (A:Option Addr) (n:Nat) (hb:n*(24+1)<=2 ^ 40):Calls Tryz.prog 189 #[.slice A 0 0,.int .i64 (n:Int)] w fun E w'=> ∃v,E= .returned v/\
   ((v= .slice A 0 0/\w'=w)\/ ∃(cells:Array Value) (T:TypeId) (cap:Nat),v= .slice (some ⟨w.heap.size,0,none⟩) 0 cap/\cap*2<=cells.size/\w'=w.drew.alloc (.cells cells T)):=by
 have h0:Tryz.prog.underlying 102=some (.slice 196):=by kernel_rfl
 have h1:Tryz.prog.underlying 3=some (.int .i64):=by kernel_rfl
 have hz:Tryz.prog.cellsOf 196=2:=by kernel_rfl
 have hbt:Tryz.prog.bytesOf 196=24:=by kernel_rfl
 have hok:kM Tryz.prog 196=true:=by kernel_rfl
 have hf:Tryz.prog.funcs[189]? =some Tryz.f189:=by kernel_rfl
 have hn:Tryz.f189.ntmps=27:=by kernel_rfl
 have u: ∀w,Sem.run Tryz.prog (underlying 102) w= .ok (TypeDesc.slice 196) w:=run_underlying h0
 have hneg: ¬((n:Int) < 0):=by omega
 have hw0:IntKind.i64.wrap ((0:Int) - 0)=0:=by decide
 have hw1:IntKind.i64.wrap ((n:Int) - 0)=(n:Int):=by rw [IntKind.wrap_i64];omega
 by_cases hn0:n=0
 ·subst hn0
  go_enter hf,hn
  go_wp2
  all_goals (go_ret;exact ⟨_,rfl,.inl ⟨rfl,rfl⟩⟩)
 ·have hpos:(0:Int) < (n:Int):=by omega
  obtain ⟨newCap,rest,hc1,hc2,hr⟩:=Bb (P:=Tryz.prog) (w:=w) (t0:=102) (t1:=3) (ty:=102) h0 h1 hok (A:=A) (n:=0) (cap:=0) (m:=n) (us:=[]) (by simp) (fun h=>by omega) (by omega) (by rw [hbt];simpa using hb)
  rw [Nat.zero_add] at hc1 hr
  go_enter hf,hn
  go_wp2_with (at_builtin;refine Go.AM.wpList_append_run _ rfl _ _ 102 3 rfl _ _ rfl rfl hr ?_)
  all_goals (go_ret;exact ⟨_,rfl,.inr ⟨_,_,newCap,rfl,by simp [hc2,hz],rfl⟩⟩)
theorem uX:ah Tryz.prog 189 ⟨.inl (growJ 2 24),false,[],0,fun _=>none⟩:=W5 oK
end Go.AM
