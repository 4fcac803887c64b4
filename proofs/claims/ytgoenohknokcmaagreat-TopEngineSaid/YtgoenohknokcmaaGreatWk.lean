/- Walks of the library’s slices.Clone and slices.Insert, and their contracts. -/
import Derived.Test.YtgoenohknokcmaaGreatAd
import Derived.Test.YtgoenohknokcmaaGreatAe
import Derived.Test.YtgoenohknokcmaaGreatSh
import Derived.Test.YtgoenohknokcmaaGreatProg
import Derived.WalkKit
import Derived.Deep.LoopGhost
import Derived.Lib.Walk
import Derived.Lib.SliceRun
import Derived.Shelf.Spec.SlicesInsert
set_option linter.unusedVariables false
set_option linter.unusedSimpArgs false
set_option maxRecDepth 100000
namespace Go.AM
open Go.Proofs Go.RowKit Go.Lib
theorem uY (w:World) (n c:Nat):Calls Tryz.prog 41 #[.slice none n c] w fun e w'=>e= .returned (.slice none 0 0)/\w'=w:=by
 have h0:Tryz.prog.underlying 28=some (.slice 60):=by kernel_rfl
 have hf:Tryz.prog.funcs[41]? =some Tryz.f41:=by kernel_rfl
 have hn:Tryz.f41.ntmps=8:=by kernel_rfl
 have q: ∀(w:World) (a:Option Addr) (n c n' c':Nat),(binOp .eql 28 (.slice a n c) (.slice none n' c')).run Tryz.prog w= .ok (.bool a.isNone) w:=fun w a n c n' c'=>Lib.run_eql_slice_nil w _ _ a n c n' c' h0
 go_enter hf,hn
 go_wp2
 go_ret
 exact ⟨rfl,rfl⟩
theorem tw (w:World) (ad:Addr) (n c:Nat) {v':Value} {w':World} (hr:(Builtin.append_ #[28,28] 28 #[.slice (some ⟨w.heap.size,0,none⟩) 0 0,.slice (some ad) n c]).run Tryz.prog (w.alloc (.cells #[] 60))= .ok v' w'):
  Calls Tryz.prog 41 #[.slice (some ad) n c] w fun e w''=>e= .returned v'/\w''=w':=by
 have h0:Tryz.prog.underlying 28=some (.slice 60):=by kernel_rfl
 have hf:Tryz.prog.funcs[41]? =some Tryz.f41:=by kernel_rfl
 have hn:Tryz.f41.ntmps=8:=by kernel_rfl
 have q: ∀(w:World) (a:Option Addr) (n c n' c':Nat),(binOp .eql 28 (.slice a n c) (.slice none n' c')).run Tryz.prog w= .ok (.bool a.isNone) w:=fun w a n c n' c'=>Lib.run_eql_slice_nil w _ _ a n c n' c' h0
 have u: ∀w,Sem.run Tryz.prog (underlying 28) w= .ok (TypeDesc.slice 60) w:=run_underlying h0
 go_enter hf,hn
 go_wp2_with (at_builtin;refine Go.AM.wpList_append_run _ rfl _ _ 28 28 rfl _ _ rfl rfl hr ?_)
 go_wp2
 go_ret
 exact ⟨rfl,rfl⟩
theorem uV:ah Tryz.prog jJ ⟨.own,false,[1],6,fun l=>match l with | [[x0]]=>dz x0 | _=>none⟩:=
 oQ (t:=28) (e:=60) (by kernel_rfl) (by kernel_rfl) (by kernel_rfl) (by kernel_rfl) uY fun w ad n c v' w' h=>tw w ad n c h
theorem wR (w:World) (n c:Nat):Calls Tryz.prog 69 #[.slice none n c] w fun e w'=>e= .returned (.slice none 0 0)/\w'=w:=by
 have h0:Tryz.prog.underlying 37=some (.slice 72):=by kernel_rfl
 have hf:Tryz.prog.funcs[69]? =some Tryz.f69:=by kernel_rfl
 have hn:Tryz.f69.ntmps=8:=by kernel_rfl
 have q: ∀(w:World) (a:Option Addr) (n c n' c':Nat),(binOp .eql 37 (.slice a n c) (.slice none n' c')).run Tryz.prog w= .ok (.bool a.isNone) w:=fun w a n c n' c'=>Lib.run_eql_slice_nil w _ _ a n c n' c' h0
 go_enter hf,hn
 go_wp2
 go_ret
 exact ⟨rfl,rfl⟩
theorem vp (w:World) (ad:Addr) (n c:Nat) {v':Value} {w':World} (hr:(Builtin.append_ #[37,37] 37 #[.slice (some ⟨w.heap.size,0,none⟩) 0 0,.slice (some ad) n c]).run Tryz.prog (w.alloc (.cells #[] 72))= .ok v' w'):
  Calls Tryz.prog 69 #[.slice (some ad) n c] w fun e w''=>e= .returned v'/\w''=w':=by
 have h0:Tryz.prog.underlying 37=some (.slice 72):=by kernel_rfl
 have hf:Tryz.prog.funcs[69]? =some Tryz.f69:=by kernel_rfl
 have hn:Tryz.f69.ntmps=8:=by kernel_rfl
 have q: ∀(w:World) (a:Option Addr) (n c n' c':Nat),(binOp .eql 37 (.slice a n c) (.slice none n' c')).run Tryz.prog w= .ok (.bool a.isNone) w:=fun w a n c n' c'=>Lib.run_eql_slice_nil w _ _ a n c n' c' h0
 have u: ∀w,Sem.run Tryz.prog (underlying 37) w= .ok (TypeDesc.slice 72) w:=run_underlying h0
 go_enter hf,hn
 go_wp2_with (at_builtin;refine Go.AM.wpList_append_run _ rfl _ _ 37 37 rfl _ _ rfl rfl hr ?_)
 go_wp2
 go_ret
 exact ⟨rfl,rfl⟩
theorem nT:ah Tryz.prog gx ⟨.own,false,[1],4,fun l=>match l with | [[x0]]=>aO x0 | _=>none⟩:=
 oQ (t:=37) (e:=72) (by kernel_rfl) (by kernel_rfl) (by kernel_rfl) (by kernel_rfl) wR fun w ad n c v' w' h=>vp w ad n c h
theorem ve (w:World) (n c:Nat):Calls Tryz.prog 78 #[.slice none n c] w fun e w'=>e= .returned (.slice none 0 0)/\w'=w:=by
 have h0:Tryz.prog.underlying 81=some (.slice 149):=by kernel_rfl
 have hf:Tryz.prog.funcs[78]? =some Tryz.f78:=by kernel_rfl
 have hn:Tryz.f78.ntmps=8:=by kernel_rfl
 have q: ∀(w:World) (a:Option Addr) (n c n' c':Nat),(binOp .eql 81 (.slice a n c) (.slice none n' c')).run Tryz.prog w= .ok (.bool a.isNone) w:=fun w a n c n' c'=>Lib.run_eql_slice_nil w _ _ a n c n' c' h0
 go_enter hf,hn
 go_wp2
 go_ret
 exact ⟨rfl,rfl⟩
theorem tI (w:World) (ad:Addr) (n c:Nat) {v':Value} {w':World} (hr:(Builtin.append_ #[81,81] 81 #[.slice (some ⟨w.heap.size,0,none⟩) 0 0,.slice (some ad) n c]).run Tryz.prog (w.alloc (.cells #[] 149))= .ok v' w'):
  Calls Tryz.prog 78 #[.slice (some ad) n c] w fun e w''=>e= .returned v'/\w''=w':=by
 have h0:Tryz.prog.underlying 81=some (.slice 149):=by kernel_rfl
 have hf:Tryz.prog.funcs[78]? =some Tryz.f78:=by kernel_rfl
 have hn:Tryz.f78.ntmps=8:=by kernel_rfl
 have q: ∀(w:World) (a:Option Addr) (n c n' c':Nat),(binOp .eql 81 (.slice a n c) (.slice none n' c')).run Tryz.prog w= .ok (.bool a.isNone) w:=fun w a n c n' c'=>Lib.run_eql_slice_nil w _ _ a n c n' c' h0
 have u: ∀w,Sem.run Tryz.prog (underlying 81) w= .ok (TypeDesc.slice 149) w:=run_underlying h0
 go_enter hf,hn
 go_wp2_with (at_builtin;refine Go.AM.wpList_append_run _ rfl _ _ 81 81 rfl _ _ rfl rfl hr ?_)
 go_wp2
 go_ret
 exact ⟨rfl,rfl⟩
theorem vb:ah Tryz.prog jC ⟨.own,false,[1],12,fun l=>match l with | [[x0]]=>cu x0 | _=>none⟩:=
 oQ (t:=81) (e:=149) (by kernel_rfl) (by kernel_rfl) (by kernel_rfl) (by kernel_rfl) ve fun w ad n c v' w' h=>tI w ad n c h
theorem qW:InsertWalks Tryz.prog 86 28 3 4 6 where
 empty:=by
  intro w A A' n c i c' hi hn
  have h0:Tryz.prog.underlying 28=some (.slice 60):=by kernel_rfl
  have hz:Tryz.prog.cellsOf 60=6:=by kernel_rfl
  have hf:Tryz.prog.funcs[86]? =some Tryz.f86:=by kernel_rfl
  have hnt:Tryz.f86.ntmps=95:=by kernel_rfl
  have u22: ∀w,Sem.run Tryz.prog (underlying 28) w= .ok (TypeDesc.slice 60) w:=run_underlying h0
  have u3: ∀w,Sem.run Tryz.prog (underlying 3) w= .ok (TypeDesc.int .i64) w:=run_underlying (by kernel_rfl)
  have hb1:(0:Int)<=i:=by omega
  have hb2:(i:Int)<=n:=by omega
  go_enter hf,hnt
  go_wp2
  all_goals (go_ret;exact ⟨rfl,rfl⟩)
 last:=by
  intro w A A' n c m c' hn hm v' w' hr
  have h0:Tryz.prog.underlying 28=some (.slice 60):=by kernel_rfl
  have hz:Tryz.prog.cellsOf 60=6:=by kernel_rfl
  have hf:Tryz.prog.funcs[86]? =some Tryz.f86:=by kernel_rfl
  have hnt:Tryz.f86.ntmps=95:=by kernel_rfl
  have u22: ∀w,Sem.run Tryz.prog (underlying 28) w= .ok (TypeDesc.slice 60) w:=run_underlying h0
  have u3: ∀w,Sem.run Tryz.prog (underlying 3) w= .ok (TypeDesc.int .i64) w:=run_underlying (by kernel_rfl)
  have hb1:(0:Int)<=n:=by omega
  have hz1: ¬((m:Int)=0):=by omega
  go_enter hf,hnt
  go_wp2_with (at_builtin;refine Go.AM.wpList_append_run _ rfl _ _ 28 28 rfl _ _ rfl rfl hr ?_)
  all_goals (go_ret;exact ⟨rfl,rfl⟩)
 grow:=by
  intro w b off n c i m c' A' hi hnc hm hroom hbig w3 b2 c2 w1 w2 hr hc2 hr2 hr3
  have h0:Tryz.prog.underlying 28=some (.slice 60):=by kernel_rfl
  have hz:Tryz.prog.cellsOf 60=6:=by kernel_rfl
  have hf:Tryz.prog.funcs[86]? =some Tryz.f86:=by kernel_rfl
  have hnt:Tryz.f86.ntmps=95:=by kernel_rfl
  have u22: ∀w,Sem.run Tryz.prog (underlying 28) w= .ok (TypeDesc.slice 60) w:=run_underlying h0
  have u3: ∀w,Sem.run Tryz.prog (underlying 3) w= .ok (TypeDesc.int .i64) w:=run_underlying (by kernel_rfl)
  have hz1: ¬((m:Int)=0):=by omega
  have hz2: ¬((i:Int)=(n:Int)):=by omega
  have hz3:(c:Int) < (n:Int)+(m:Int):=by omega
  have hin:i<=n:=by omega
  go_enter hf,hnt
  simp only [Nat.zero_add] at hr2 hr3
  go_wp2_with (at_builtin;first | refine Go.AM.wpList_append_run _ rfl _ _ 28 3 rfl _ _ rfl rfl hr ?_ | refine wpList_copy_runI _ rfl _ _ 28 28 rfl _ _ rfl rfl hr2 ?_)
  have mixed:Tryz.prog.follows .mixedOrders=true:=by kernel_rfl
  have hw1:IntKind.i64.wrap ((i:Int)+(m:Int))=(i:Int)+(m:Int):=by rw [IntKind.wrap_i64];omega
  have hb1:(0:Int)<=(i:Int)+(m:Int):=by omega
  have htn:((i:Int)+(m:Int)).toNat=i+m:=by omega
  have hb2: ¬(c2=i+m):=by omega
  have hb4: ¬(c=i):=by omega
  go_region_law_o (refine step_copy_runI rfl _ _ 28 28 rfl _ _ (by simp [Act.eval,Act.put]) (by simp [Act.eval,Act.put]) hr3 ?_)
  go_wp2
  all_goals (go_ret;exact ⟨rfl,rfl⟩)
 shift:=by
  intro w b off n c i m c' A' hi hnc hm hroom hbig w2 w3 hov0 hr2 hr3
  have h0:Tryz.prog.underlying 28=some (.slice 60):=by kernel_rfl
  have hz:Tryz.prog.cellsOf 60=6:=by kernel_rfl
  have hf:Tryz.prog.funcs[86]? =some Tryz.f86:=by kernel_rfl
  have hnt:Tryz.f86.ntmps=95:=by kernel_rfl
  have u22: ∀w,Sem.run Tryz.prog (underlying 28) w= .ok (TypeDesc.slice 60) w:=run_underlying h0
  have u3: ∀w,Sem.run Tryz.prog (underlying 3) w= .ok (TypeDesc.int .i64) w:=run_underlying (by kernel_rfl)
  have hov: ∀lb cb,(callFunc 150 #[.slice A' m c',.slice (some ⟨b,off+(i+m)*6,none⟩) lb cb]).run Tryz.prog w= .ok (.value (.bool false)) w:=fun lb cb=>by
   rw [run_callFunc_extern (fn:=Tryz.f150) (by kernel_rfl) (by kernel_rfl) (by kernel_rfl) (by kernel_rfl) (e:=Extern.SlicesOverlaps.overlaps #[28,28] #[4]) (by kernel_rfl),hov0 lb cb]
   rfl
  have hz1: ¬((m:Int)=0):=by omega
  have hz2: ¬((i:Int)=(n:Int)):=by omega
  have hin:i<=n:=by omega
  have mixed:Tryz.prog.follows .mixedOrders=true:=by kernel_rfl
  have hw1:IntKind.i64.wrap ((i:Int)+(m:Int))=(i:Int)+(m:Int):=by rw [IntKind.wrap_i64];omega
  have hb1:(0:Int)<=(i:Int)+(m:Int):=by omega
  have htn:((i:Int)+(m:Int)).toNat=i+m:=by omega
  have hb2: ¬(c=i+m):=by omega
  have hb3:(i:Int)<=(n:Int)+(m:Int):=by omega
  have hb4: ¬(c=i):=by omega
  go_enter hf,hnt
  go_wp2_with (simp only [hov])
  go_region_law_o (refine step_copy_runI rfl _ _ 28 28 rfl _ _ (by simp [Act.eval,Act.put]) (by simp [Act.eval,Act.put]) hr2 ?_)
  go_wp2_with (at_builtin;refine wpList_copy_runI _ rfl _ _ 28 28 rfl _ _ rfl rfl hr3 ?_)
  all_goals (go_ret;exact ⟨rfl,rfl⟩)
theorem tW:ah Tryz.prog iY ⟨.cons,false,[1],6,fun l=>match l with | [[x0],[x1],[x2]]=>cQ x0 x1 x2 | _=>none⟩:=
 pY (e:=60) (by kernel_rfl) (by kernel_rfl) (by kernel_rfl) (by kernel_rfl) (by kernel_rfl) qW
theorem uZ (w:World) (n c:Nat):Calls Tryz.prog 113 #[.slice none n c] w fun e w'=>e= .returned (.slice none 0 0)/\w'=w:=by
 have h0:Tryz.prog.underlying 46=some (.slice 178):=by kernel_rfl
 have hf:Tryz.prog.funcs[113]? =some Tryz.f113:=by kernel_rfl
 have hn:Tryz.f113.ntmps=8:=by kernel_rfl
 have q: ∀(w:World) (a:Option Addr) (n c n' c':Nat),(binOp .eql 46 (.slice a n c) (.slice none n' c')).run Tryz.prog w= .ok (.bool a.isNone) w:=fun w a n c n' c'=>Lib.run_eql_slice_nil w _ _ a n c n' c' h0
 go_enter hf,hn
 go_wp2
 go_ret
 exact ⟨rfl,rfl⟩
theorem tZ (w:World) (ad:Addr) (n c:Nat) {v':Value} {w':World} (hr:(Builtin.append_ #[46,46] 46 #[.slice (some ⟨w.heap.size,0,none⟩) 0 0,.slice (some ad) n c]).run Tryz.prog (w.alloc (.cells #[] 178))= .ok v' w'):
  Calls Tryz.prog 113 #[.slice (some ad) n c] w fun e w''=>e= .returned v'/\w''=w':=by
 have h0:Tryz.prog.underlying 46=some (.slice 178):=by kernel_rfl
 have hf:Tryz.prog.funcs[113]? =some Tryz.f113:=by kernel_rfl
 have hn:Tryz.f113.ntmps=8:=by kernel_rfl
 have q: ∀(w:World) (a:Option Addr) (n c n' c':Nat),(binOp .eql 46 (.slice a n c) (.slice none n' c')).run Tryz.prog w= .ok (.bool a.isNone) w:=fun w a n c n' c'=>Lib.run_eql_slice_nil w _ _ a n c n' c' h0
 have u: ∀w,Sem.run Tryz.prog (underlying 46) w= .ok (TypeDesc.slice 178) w:=run_underlying h0
 go_enter hf,hn
 go_wp2_with (at_builtin;refine Go.AM.wpList_append_run _ rfl _ _ 46 46 rfl _ _ rfl rfl hr ?_)
 go_wp2
 go_ret
 exact ⟨rfl,rfl⟩
theorem vk:ah Tryz.prog jK ⟨.own,false,[1],2,fun l=>match l with | [[x0]]=>dA x0 | _=>none⟩:=
 oQ (t:=46) (e:=178) (by kernel_rfl) (by kernel_rfl) (by kernel_rfl) (by kernel_rfl) uZ fun w ad n c v' w' h=>tZ w ad n c h
theorem rF:InsertWalks Tryz.prog 118 46 3 4 2 where
 empty:=by
  intro w A A' n c i c' hi hn
  have h0:Tryz.prog.underlying 46=some (.slice 178):=by kernel_rfl
  have hz:Tryz.prog.cellsOf 178=2:=by kernel_rfl
  have hf:Tryz.prog.funcs[118]? =some Tryz.f118:=by kernel_rfl
  have hnt:Tryz.f118.ntmps=95:=by kernel_rfl
  have u22: ∀w,Sem.run Tryz.prog (underlying 46) w= .ok (TypeDesc.slice 178) w:=run_underlying h0
  have u3: ∀w,Sem.run Tryz.prog (underlying 3) w= .ok (TypeDesc.int .i64) w:=run_underlying (by kernel_rfl)
  have hb1:(0:Int)<=i:=by omega
  have hb2:(i:Int)<=n:=by omega
  go_enter hf,hnt
  go_wp2
  all_goals (go_ret;exact ⟨rfl,rfl⟩)
 last:=by
  intro w A A' n c m c' hn hm v' w' hr
  have h0:Tryz.prog.underlying 46=some (.slice 178):=by kernel_rfl
  have hz:Tryz.prog.cellsOf 178=2:=by kernel_rfl
  have hf:Tryz.prog.funcs[118]? =some Tryz.f118:=by kernel_rfl
  have hnt:Tryz.f118.ntmps=95:=by kernel_rfl
  have u22: ∀w,Sem.run Tryz.prog (underlying 46) w= .ok (TypeDesc.slice 178) w:=run_underlying h0
  have u3: ∀w,Sem.run Tryz.prog (underlying 3) w= .ok (TypeDesc.int .i64) w:=run_underlying (by kernel_rfl)
  have hb1:(0:Int)<=n:=by omega
  have hz1: ¬((m:Int)=0):=by omega
  go_enter hf,hnt
  go_wp2_with (at_builtin;refine Go.AM.wpList_append_run _ rfl _ _ 46 46 rfl _ _ rfl rfl hr ?_)
  all_goals (go_ret;exact ⟨rfl,rfl⟩)
 grow:=by
  intro w b off n c i m c' A' hi hnc hm hroom hbig w3 b2 c2 w1 w2 hr hc2 hr2 hr3
  have h0:Tryz.prog.underlying 46=some (.slice 178):=by kernel_rfl
  have hz:Tryz.prog.cellsOf 178=2:=by kernel_rfl
  have hf:Tryz.prog.funcs[118]? =some Tryz.f118:=by kernel_rfl
  have hnt:Tryz.f118.ntmps=95:=by kernel_rfl
  have u22: ∀w,Sem.run Tryz.prog (underlying 46) w= .ok (TypeDesc.slice 178) w:=run_underlying h0
  have u3: ∀w,Sem.run Tryz.prog (underlying 3) w= .ok (TypeDesc.int .i64) w:=run_underlying (by kernel_rfl)
  have hz1: ¬((m:Int)=0):=by omega
  have hz2: ¬((i:Int)=(n:Int)):=by omega
  have hz3:(c:Int) < (n:Int)+(m:Int):=by omega
  have hin:i<=n:=by omega
  go_enter hf,hnt
  simp only [Nat.zero_add] at hr2 hr3
  go_wp2_with (at_builtin;first | refine Go.AM.wpList_append_run _ rfl _ _ 46 3 rfl _ _ rfl rfl hr ?_ | refine wpList_copy_runI _ rfl _ _ 46 46 rfl _ _ rfl rfl hr2 ?_)
  have mixed:Tryz.prog.follows .mixedOrders=true:=by kernel_rfl
  have hw1:IntKind.i64.wrap ((i:Int)+(m:Int))=(i:Int)+(m:Int):=by rw [IntKind.wrap_i64];omega
  have hb1:(0:Int)<=(i:Int)+(m:Int):=by omega
  have htn:((i:Int)+(m:Int)).toNat=i+m:=by omega
  have hb2: ¬(c2=i+m):=by omega
  have hb4: ¬(c=i):=by omega
  go_region_law_o (refine step_copy_runI rfl _ _ 46 46 rfl _ _ (by simp [Act.eval,Act.put]) (by simp [Act.eval,Act.put]) hr3 ?_)
  go_wp2
  all_goals (go_ret;exact ⟨rfl,rfl⟩)
 shift:=by
  intro w b off n c i m c' A' hi hnc hm hroom hbig w2 w3 hov0 hr2 hr3
  have h0:Tryz.prog.underlying 46=some (.slice 178):=by kernel_rfl
  have hz:Tryz.prog.cellsOf 178=2:=by kernel_rfl
  have hf:Tryz.prog.funcs[118]? =some Tryz.f118:=by kernel_rfl
  have hnt:Tryz.f118.ntmps=95:=by kernel_rfl
  have u22: ∀w,Sem.run Tryz.prog (underlying 46) w= .ok (TypeDesc.slice 178) w:=run_underlying h0
  have u3: ∀w,Sem.run Tryz.prog (underlying 3) w= .ok (TypeDesc.int .i64) w:=run_underlying (by kernel_rfl)
  have hov: ∀lb cb,(callFunc 179 #[.slice A' m c',.slice (some ⟨b,off+(i+m)*2,none⟩) lb cb]).run Tryz.prog w= .ok (.value (.bool false)) w:=fun lb cb=>by
   rw [run_callFunc_extern (fn:=Tryz.f179) (by kernel_rfl) (by kernel_rfl) (by kernel_rfl) (by kernel_rfl) (e:=Extern.SlicesOverlaps.overlaps #[46,46] #[4]) (by kernel_rfl),hov0 lb cb]
   rfl
  have hz1: ¬((m:Int)=0):=by omega
  have hz2: ¬((i:Int)=(n:Int)):=by omega
  have hin:i<=n:=by omega
  have mixed:Tryz.prog.follows .mixedOrders=true:=by kernel_rfl
  have hw1:IntKind.i64.wrap ((i:Int)+(m:Int))=(i:Int)+(m:Int):=by rw [IntKind.wrap_i64];omega
  have hb1:(0:Int)<=(i:Int)+(m:Int):=by omega
  have htn:((i:Int)+(m:Int)).toNat=i+m:=by omega
  have hb2: ¬(c=i+m):=by omega
  have hb3:(i:Int)<=(n:Int)+(m:Int):=by omega
  have hb4: ¬(c=i):=by omega
  go_enter hf,hnt
  go_wp2_with (simp only [hov])
  go_region_law_o (refine step_copy_runI rfl _ _ 46 46 rfl _ _ (by simp [Act.eval,Act.put]) (by simp [Act.eval,Act.put]) hr2 ?_)
  go_wp2_with (at_builtin;refine wpList_copy_runI _ rfl _ _ 46 46 rfl _ _ rfl rfl hr3 ?_)
  all_goals (go_ret;exact ⟨rfl,rfl⟩)
theorem tx:ah Tryz.prog iV ⟨.cons,false,[1],2,fun l=>match l with | [[x0],[x1],[x2]]=>cf x0 x1 x2 | _=>none⟩:=
 pY (e:=178) (by kernel_rfl) (by kernel_rfl) (by kernel_rfl) (by kernel_rfl) (by kernel_rfl) rF
theorem sI:InsertWalks Tryz.prog 157 37 3 4 4 where
 empty:=by
  intro w A A' n c i c' hi hn
  have h0:Tryz.prog.underlying 37=some (.slice 72):=by kernel_rfl
  have hz:Tryz.prog.cellsOf 72=4:=by kernel_rfl
  have hf:Tryz.prog.funcs[157]? =some Tryz.f157:=by kernel_rfl
  have hnt:Tryz.f157.ntmps=95:=by kernel_rfl
  have u22: ∀w,Sem.run Tryz.prog (underlying 37) w= .ok (TypeDesc.slice 72) w:=run_underlying h0
  have u3: ∀w,Sem.run Tryz.prog (underlying 3) w= .ok (TypeDesc.int .i64) w:=run_underlying (by kernel_rfl)
  have hb1:(0:Int)<=i:=by omega
  have hb2:(i:Int)<=n:=by omega
  go_enter hf,hnt
  go_wp2
  all_goals (go_ret;exact ⟨rfl,rfl⟩)
 last:=by
  intro w A A' n c m c' hn hm v' w' hr
  have h0:Tryz.prog.underlying 37=some (.slice 72):=by kernel_rfl
  have hz:Tryz.prog.cellsOf 72=4:=by kernel_rfl
  have hf:Tryz.prog.funcs[157]? =some Tryz.f157:=by kernel_rfl
  have hnt:Tryz.f157.ntmps=95:=by kernel_rfl
  have u22: ∀w,Sem.run Tryz.prog (underlying 37) w= .ok (TypeDesc.slice 72) w:=run_underlying h0
  have u3: ∀w,Sem.run Tryz.prog (underlying 3) w= .ok (TypeDesc.int .i64) w:=run_underlying (by kernel_rfl)
  have hb1:(0:Int)<=n:=by omega
  have hz1: ¬((m:Int)=0):=by omega
  go_enter hf,hnt
  go_wp2_with (at_builtin;refine Go.AM.wpList_append_run _ rfl _ _ 37 37 rfl _ _ rfl rfl hr ?_)
  all_goals (go_ret;exact ⟨rfl,rfl⟩)
 grow:=by
  intro w b off n c i m c' A' hi hnc hm hroom hbig w3 b2 c2 w1 w2 hr hc2 hr2 hr3
  have h0:Tryz.prog.underlying 37=some (.slice 72):=by kernel_rfl
  have hz:Tryz.prog.cellsOf 72=4:=by kernel_rfl
  have hf:Tryz.prog.funcs[157]? =some Tryz.f157:=by kernel_rfl
  have hnt:Tryz.f157.ntmps=95:=by kernel_rfl
  have u22: ∀w,Sem.run Tryz.prog (underlying 37) w= .ok (TypeDesc.slice 72) w:=run_underlying h0
  have u3: ∀w,Sem.run Tryz.prog (underlying 3) w= .ok (TypeDesc.int .i64) w:=run_underlying (by kernel_rfl)
  have hz1: ¬((m:Int)=0):=by omega
  have hz2: ¬((i:Int)=(n:Int)):=by omega
  have hz3:(c:Int) < (n:Int)+(m:Int):=by omega
  have hin:i<=n:=by omega
  go_enter hf,hnt
  simp only [Nat.zero_add] at hr2 hr3
  go_wp2_with (at_builtin;first | refine Go.AM.wpList_append_run _ rfl _ _ 37 3 rfl _ _ rfl rfl hr ?_ | refine wpList_copy_runI _ rfl _ _ 37 37 rfl _ _ rfl rfl hr2 ?_)
  have mixed:Tryz.prog.follows .mixedOrders=true:=by kernel_rfl
  have hw1:IntKind.i64.wrap ((i:Int)+(m:Int))=(i:Int)+(m:Int):=by rw [IntKind.wrap_i64];omega
  have hb1:(0:Int)<=(i:Int)+(m:Int):=by omega
  have htn:((i:Int)+(m:Int)).toNat=i+m:=by omega
  have hb2: ¬(c2=i+m):=by omega
  have hb4: ¬(c=i):=by omega
  go_region_law_o (refine step_copy_runI rfl _ _ 37 37 rfl _ _ (by simp [Act.eval,Act.put]) (by simp [Act.eval,Act.put]) hr3 ?_)
  go_wp2
  all_goals (go_ret;exact ⟨rfl,rfl⟩)
 shift:=by
  intro w b off n c i m c' A' hi hnc hm hroom hbig w2 w3 hov0 hr2 hr3
  have h0:Tryz.prog.underlying 37=some (.slice 72):=by kernel_rfl
  have hz:Tryz.prog.cellsOf 72=4:=by kernel_rfl
  have hf:Tryz.prog.funcs[157]? =some Tryz.f157:=by kernel_rfl
  have hnt:Tryz.f157.ntmps=95:=by kernel_rfl
  have u22: ∀w,Sem.run Tryz.prog (underlying 37) w= .ok (TypeDesc.slice 72) w:=run_underlying h0
  have u3: ∀w,Sem.run Tryz.prog (underlying 3) w= .ok (TypeDesc.int .i64) w:=run_underlying (by kernel_rfl)
  have hov: ∀lb cb,(callFunc 209 #[.slice A' m c',.slice (some ⟨b,off+(i+m)*4,none⟩) lb cb]).run Tryz.prog w= .ok (.value (.bool false)) w:=fun lb cb=>by
   rw [run_callFunc_extern (fn:=Tryz.f209) (by kernel_rfl) (by kernel_rfl) (by kernel_rfl) (by kernel_rfl) (e:=Extern.SlicesOverlaps.overlaps #[37,37] #[4]) (by kernel_rfl),hov0 lb cb]
   rfl
  have hz1: ¬((m:Int)=0):=by omega
  have hz2: ¬((i:Int)=(n:Int)):=by omega
  have hin:i<=n:=by omega
  have mixed:Tryz.prog.follows .mixedOrders=true:=by kernel_rfl
  have hw1:IntKind.i64.wrap ((i:Int)+(m:Int))=(i:Int)+(m:Int):=by rw [IntKind.wrap_i64];omega
  have hb1:(0:Int)<=(i:Int)+(m:Int):=by omega
  have htn:((i:Int)+(m:Int)).toNat=i+m:=by omega
  have hb2: ¬(c=i+m):=by omega
  have hb3:(i:Int)<=(n:Int)+(m:Int):=by omega
  have hb4: ¬(c=i):=by omega
  go_enter hf,hnt
  go_wp2_with (simp only [hov])
  go_region_law_o (refine step_copy_runI rfl _ _ 37 37 rfl _ _ (by simp [Act.eval,Act.put]) (by simp [Act.eval,Act.put]) hr2 ?_)
  go_wp2_with (at_builtin;refine wpList_copy_runI _ rfl _ _ 37 37 rfl _ _ rfl rfl hr3 ?_)
  all_goals (go_ret;exact ⟨rfl,rfl⟩)
theorem vo:ah Tryz.prog jF ⟨.cons,false,[1],4,fun l=>match l with | [[x0],[x1],[x2]]=>cw x0 x1 x2 | _=>none⟩:=
 pY (e:=72) (by kernel_rfl) (by kernel_rfl) (by kernel_rfl) (by kernel_rfl) (by kernel_rfl) sI
set_option maxHeartbeats 2000000 in
theorem rO:DeleteWalks Tryz.prog 200 37 4 where
 same:=by
  intro w A n c i hi hn
  have h0:Tryz.prog.underlying 37=some (.slice 72):=by kernel_rfl
  have hz:Tryz.prog.cellsOf 72=4:=by kernel_rfl
  have hf:Tryz.prog.funcs[200]? =some Tryz.f200:=by kernel_rfl
  have hnt:Tryz.f200.ntmps=33:=by kernel_rfl
  have hic:i<=c:=by omega
  go_enter hf,hnt
  go_wp2
  all_goals (go_ret;exact ⟨rfl,rfl⟩)
 cut:=by
  intro w b off n c i j hij hj hnc hbig w1 w2 hr hcl
  have h0:Tryz.prog.underlying 37=some (.slice 72):=by kernel_rfl
  have hz:Tryz.prog.cellsOf 72=4:=by kernel_rfl
  have hf:Tryz.prog.funcs[200]? =some Tryz.f200:=by kernel_rfl
  have hnt:Tryz.f200.ntmps=33:=by kernel_rfl
  have mixed:Tryz.prog.follows .mixedOrders=true:=by kernel_rfl
  have hic:i<=c:=by omega
  have hjc:j<=c:=by omega
  have hne: ¬((i:Int)=(j:Int)):=by omega
  have hij2:i<=j:=by omega
  go_enter hf,hnt
  go_wp2_with fail
  have hlt:i+(n - j)<=n:=by omega
  have hltc:i+(n - j)<=c:=by omega
  go_region_law_o (refine Cv rfl _ _ 37 37 rfl _ _ (by simp [Act.eval,Act.put]) (by simp [Act.eval,Act.put]) hr ?_)
  go_wp2
  all_goals (go_ret;exact ⟨rfl,rfl⟩)
theorem uT:ah Tryz.prog jH ⟨.cons,false,[1],4,fun l=>match l with | [[x0],[x1],[x2]]=>dw x0 x1 x2 | _=>none⟩:=
 Gs (e:=72) (by kernel_rfl) (by kernel_rfl) (by kernel_rfl) (by kernel_rfl) rO
end Go.AM
