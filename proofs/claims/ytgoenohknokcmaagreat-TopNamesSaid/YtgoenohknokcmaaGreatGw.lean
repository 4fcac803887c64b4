/- slices.Grow walked, at nothing. -/
import Derived.Test.YtgoenohknokcmaaGreatAd
import Derived.Test.YtgoenohknokcmaaGreatProg
import Derived.Lib.Walk
open Go.Proofs.Tryz renaming prog->ab
set_option linter.unusedVariables false
set_option linter.unusedSimpArgs false
set_option maxRecDepth 100000
set_option maxHeartbeats 1000000
namespace Go.AM
open Go.Proofs Go.RowKit Go.Lib
theorem sX (w:World) (A:Option Addr) (n:Nat) (hb:n*(24+1)<=2 ^ 40):Calls ab 189 #[.slice A 0 0,.int .i64 (n:Int)] w λE w'=> ∃v,E= .returned v/\
   ((v= .slice A 0 0/\w'=w)\/ ∃(cells:Array Value) (T:TypeId) (cap:Nat),v= .slice (some ⟨w.heap.size,0,none⟩) 0 cap/\cap*2<=cells.size/\w'=w.drew.alloc (.cells cells T)):=by
 have h0:ab.underlying 102=some (.slice 196):=by kernel_rfl
 have h1:ab.underlying 3=some (.int .i64):=by kernel_rfl
 have hz:ab.cellsOf 196=2:=by kernel_rfl
 have b:ab.bytesOf 196=24:=by kernel_rfl
 have hok:qL ab 196=true:=by kernel_rfl
 have hf:ab.funcs[189]? =some Tryz.f189:=by kernel_rfl
 have hn:Tryz.f189.ntmps=27:=by kernel_rfl
 have u: ∀w,Sem.run ab (underlying 102) w= .ok (TypeDesc.slice 196) w:=run_underlying h0
 have f: ¬((n:Int) < 0):=by omega
 have i:IntKind.i64.wrap ((0:Int) - 0)=0:=by decide
 have j:IntKind.i64.wrap ((n:Int) - 0)=(n:Int):=by rw [IntKind.wrap_i64];omega
 by_cases e:n=0
 ·subst e
  go_enter hf,hn
  go_wp2
  all_goals (go_ret;exact ⟨_,rfl,.inl ⟨rfl,rfl⟩⟩)
 ·have g:(0:Int) < (n:Int):=by omega
  obtain ⟨a,rest,c,d,hr⟩:=ES (P:=ab) (w:=w) (t0:=102) (t1:=3) (ty:=102) h0 h1 hok (A:=A) (n:=0) (cap:=0) (m:=n) (us:=[]) (by simp) (λh=>by omega) (by omega) (by rw [b];simpa using hb)
  rw [Nat.zero_add] at c hr
  go_enter hf,hn
  go_wp2_with (at_builtin;refine Go.AM.wpList_append_run _ rfl _ _ 102 3 rfl _ _ rfl rfl hr ?_)
  all_goals (go_ret;exact ⟨_,rfl,.inr ⟨_,_,a,rfl,by simp [d,hz],rfl⟩⟩)
theorem zq:ay ab 189 ⟨.inl (growJ 2 24),false,[],0,λ_=>none⟩:=aa3 sX
end Go.AM
