/- Walks of the library’s slices.Clone and slices.Insert, and their contracts. -/
import Derived.Test.YtgoenohknokcmaaGreatSh
import Derived.Test.YtgoenohknokcmaaGreatProg
import Derived.Deep.LoopGhost
open Go.Proofs.Tryz renaming prog->ab,f118->bb,f157->bd,f86->bf,f113->bm,f41->br,f69->bs
open Go.TypeDesc renaming slice->al,int->a1
open Go.Lib renaming run_eql_slice_nil->ao
open Go.Sem renaming run->aB
open Go.Extern.SlicesOverlaps renaming overlaps->a2
open Go.IntKind renaming wrap_i64->a5,i64->a7
open Go.Act renaming eval->a6,put->a8
set_option linter.unusedVariables false
set_option linter.unusedSimpArgs false
set_option maxRecDepth 100000
namespace Go.AM
open Go.Proofs Go.RowKit Go.Lib
theorem zH (w:World) (n c:Nat):Calls ab 41 #[.slice none n c] w λe w'=>e= .returned (.slice none 0 0)/\w'=w:=by
 have h0:ab.underlying 28=some (.slice 60):=by kernel_rfl
 have hf:ab.funcs[41]? =some br:=by kernel_rfl
 have hn:br.ntmps=8:=by kernel_rfl
 have q: ∀(w:World) (a:Option Addr) (n c b c':Nat),(binOp .eql 28 (.slice a n c) (.slice none b c')).run ab w= .ok (.bool a.isNone) w:= λw a n c b c'=>ao w _ _ a n c b c' h0
 go_enter hf,hn
 go_wp2
 go_ret
 exact ⟨rfl,rfl⟩
theorem yv (w:World) (ad:Addr) (n c:Nat) {v':Value} {w':World} (hr:(Builtin.append_ #[28,28] 28 #[.slice (some ⟨w.heap.size,0,none⟩) 0 0,.slice (some ad) n c]).run ab (w.alloc (.cells #[] 60))= .ok v' w'):
  Calls ab 41 #[.slice (some ad) n c] w λe w''=>e= .returned v'/\w''=w':=by
 have h0:ab.underlying 28=some (.slice 60):=by kernel_rfl
 have hf:ab.funcs[41]? =some br:=by kernel_rfl
 have hn:br.ntmps=8:=by kernel_rfl
 have q: ∀(w:World) (a:Option Addr) (n c b c':Nat),(binOp .eql 28 (.slice a n c) (.slice none b c')).run ab w= .ok (.bool a.isNone) w:= λw a n c b c'=>ao w _ _ a n c b c' h0
 have u: ∀w,aB ab (underlying 28) w= .ok (al 60) w:=run_underlying h0
 go_enter hf,hn
 go_wp2_with (at_builtin;refine Go.AM.wpList_append_run _ rfl _ _ 28 28 rfl _ _ rfl rfl hr ?_)
 go_wp2
 go_ret
 exact ⟨rfl,rfl⟩
theorem zJ:ay ab nf ⟨.fresh,false,[1],6,λl=>match l with | [[a]]=>dz a | _=>none⟩:=
 xR (xW (t:=28) (e:=60) (by kernel_rfl) (by kernel_rfl) (by kernel_rfl) (by kernel_rfl) zH λw ad n c v' w' h=>yv w ad n c h)
theorem AD (w:World) (n c:Nat):Calls ab 69 #[.slice none n c] w λe w'=>e= .returned (.slice none 0 0)/\w'=w:=by
 have h0:ab.underlying 37=some (.slice 72):=by kernel_rfl
 have hf:ab.funcs[69]? =some bs:=by kernel_rfl
 have hn:bs.ntmps=8:=by kernel_rfl
 have q: ∀(w:World) (a:Option Addr) (n c b c':Nat),(binOp .eql 37 (.slice a n c) (.slice none b c')).run ab w= .ok (.bool a.isNone) w:= λw a n c b c'=>ao w _ _ a n c b c' h0
 go_enter hf,hn
 go_wp2
 go_ret
 exact ⟨rfl,rfl⟩
theorem zB (w:World) (ad:Addr) (n c:Nat) {v':Value} {w':World} (hr:(Builtin.append_ #[37,37] 37 #[.slice (some ⟨w.heap.size,0,none⟩) 0 0,.slice (some ad) n c]).run ab (w.alloc (.cells #[] 72))= .ok v' w'):
  Calls ab 69 #[.slice (some ad) n c] w λe w''=>e= .returned v'/\w''=w':=by
 have h0:ab.underlying 37=some (.slice 72):=by kernel_rfl
 have hf:ab.funcs[69]? =some bs:=by kernel_rfl
 have hn:bs.ntmps=8:=by kernel_rfl
 have q: ∀(w:World) (a:Option Addr) (n c b c':Nat),(binOp .eql 37 (.slice a n c) (.slice none b c')).run ab w= .ok (.bool a.isNone) w:= λw a n c b c'=>ao w _ _ a n c b c' h0
 have u: ∀w,aB ab (underlying 37) w= .ok (al 72) w:=run_underlying h0
 go_enter hf,hn
 go_wp2_with (at_builtin;refine Go.AM.wpList_append_run _ rfl _ _ 37 37 rfl _ _ rfl rfl hr ?_)
 go_wp2
 go_ret
 exact ⟨rfl,rfl⟩
theorem zQ:ay ab oD ⟨.fresh,false,[1],4,λl=>match l with | [[a]]=>fX a | _=>none⟩:=
 xR (xW (t:=37) (e:=72) (by kernel_rfl) (by kernel_rfl) (by kernel_rfl) (by kernel_rfl) AD λw ad n c v' w' h=>zB w ad n c h)
theorem wy:InsertWalks ab 86 28 3 4 6 where
 empty:=by
  intro w A A' n c i c' hi hn
  have h0:ab.underlying 28=some (.slice 60):=by kernel_rfl
  have hz:ab.cellsOf 60=6:=by kernel_rfl
  have hf:ab.funcs[86]? =some bf:=by kernel_rfl
  have a:bf.ntmps=95:=by kernel_rfl
  have u22: ∀w,aB ab (underlying 28) w= .ok (al 60) w:=run_underlying h0
  have u3: ∀w,aB ab (underlying 3) w= .ok (a1 .i64) w:=run_underlying (by kernel_rfl)
  have g:(0:Int)<=i:=by omega
  have j:(i:Int)<=n:=by omega
  go_enter hf,a
  go_wp2
  all_goals (go_ret;exact ⟨rfl,rfl⟩)
 last:=by
  intro w A A' n c m c' hn hm v' w' hr
  have h0:ab.underlying 28=some (.slice 60):=by kernel_rfl
  have hz:ab.cellsOf 60=6:=by kernel_rfl
  have hf:ab.funcs[86]? =some bf:=by kernel_rfl
  have a:bf.ntmps=95:=by kernel_rfl
  have u22: ∀w,aB ab (underlying 28) w= .ok (al 60) w:=run_underlying h0
  have u3: ∀w,aB ab (underlying 3) w= .ok (a1 .i64) w:=run_underlying (by kernel_rfl)
  have g:(0:Int)<=n:=by omega
  have o: ¬((m:Int)=0):=by omega
  go_enter hf,a
  go_wp2_with (at_builtin;refine Go.AM.wpList_append_run _ rfl _ _ 28 28 rfl _ _ rfl rfl hr ?_)
  all_goals (go_ret;exact ⟨rfl,rfl⟩)
 grow:=by
  intro w b off n c i m c' A' hi r hm h k w3 b2 c2 w1 w2 hr y d f
  have h0:ab.underlying 28=some (.slice 60):=by kernel_rfl
  have hz:ab.cellsOf 60=6:=by kernel_rfl
  have hf:ab.funcs[86]? =some bf:=by kernel_rfl
  have a:bf.ntmps=95:=by kernel_rfl
  have u22: ∀w,aB ab (underlying 28) w= .ok (al 60) w:=run_underlying h0
  have u3: ∀w,aB ab (underlying 3) w= .ok (a1 .i64) w:=run_underlying (by kernel_rfl)
  have o: ¬((m:Int)=0):=by omega
  have v: ¬((i:Int)=(n:Int)):=by omega
  have z:(c:Int) < (n:Int)+(m:Int):=by omega
  have q:i<=n:=by omega
  go_enter hf,a
  simp only [Nat.zero_add] at d f
  go_wp2_with (at_builtin;first | refine Go.AM.wpList_append_run _ rfl _ _ 28 3 rfl _ _ rfl rfl hr ?_ | refine wpList_copy_runI _ rfl _ _ 28 28 rfl _ _ rfl rfl d ?_)
  have mixed:ab.follows .mixedOrders=true:=by kernel_rfl
  have u:a7.wrap ((i:Int)+(m:Int))=(i:Int)+(m:Int):=by rw [a5];omega
  have g:(0:Int)<=(i:Int)+(m:Int):=by omega
  have t:((i:Int)+(m:Int)).toNat=i+m:=by omega
  have j: ¬(c2=i+m):=by omega
  have p: ¬(c=i):=by omega
  go_region_law_o (refine step_copy_runI rfl _ _ 28 28 rfl _ _ (by simp [a6,a8]) (by simp [a6,a8]) f ?_)
  go_wp2
  all_goals (go_ret;exact ⟨rfl,rfl⟩)
 shift:=by
  intro w b off n c i m c' A' hi r hm h k w2 w3 l d f
  have h0:ab.underlying 28=some (.slice 60):=by kernel_rfl
  have hz:ab.cellsOf 60=6:=by kernel_rfl
  have hf:ab.funcs[86]? =some bf:=by kernel_rfl
  have a:bf.ntmps=95:=by kernel_rfl
  have u22: ∀w,aB ab (underlying 28) w= .ok (al 60) w:=run_underlying h0
  have u3: ∀w,aB ab (underlying 3) w= .ok (a1 .i64) w:=run_underlying (by kernel_rfl)
  have s: ∀lb cb,(callFunc 150 #[.slice A' m c',.slice (some ⟨b,off+(i+m)*6,none⟩) lb cb]).run ab w= .ok (.value (.bool false)) w:= λlb cb=>by
   rw [run_callFunc_extern (fn:=Tryz.f150) (by kernel_rfl) (by kernel_rfl) (by kernel_rfl) (by kernel_rfl) (e:=a2 #[28,28] #[4]) (by kernel_rfl),l lb cb]
   rfl
  have o: ¬((m:Int)=0):=by omega
  have v: ¬((i:Int)=(n:Int)):=by omega
  have q:i<=n:=by omega
  have mixed:ab.follows .mixedOrders=true:=by kernel_rfl
  have u:a7.wrap ((i:Int)+(m:Int))=(i:Int)+(m:Int):=by rw [a5];omega
  have g:(0:Int)<=(i:Int)+(m:Int):=by omega
  have t:((i:Int)+(m:Int)).toNat=i+m:=by omega
  have j: ¬(c=i+m):=by omega
  have x:(i:Int)<=(n:Int)+(m:Int):=by omega
  have p: ¬(c=i):=by omega
  go_enter hf,a
  go_wp2_with (simp only [s])
  go_region_law_o (refine step_copy_runI rfl _ _ 28 28 rfl _ _ (by simp [a6,a8]) (by simp [a6,a8]) d ?_)
  go_wp2_with (at_builtin;refine wpList_copy_runI _ rfl _ _ 28 28 rfl _ _ rfl rfl f ?_)
  all_goals (go_ret;exact ⟨rfl,rfl⟩)
theorem yM:ay ab lY ⟨.cons,false,[1],6,λl=>match l with | [[a],[b],[c]]=>ej a b c | _=>none⟩:=
 uZ (e:=60) (by kernel_rfl) (by kernel_rfl) (by kernel_rfl) (by kernel_rfl) (by kernel_rfl) wy
theorem zr (w:World) (n c:Nat):Calls ab 113 #[.slice none n c] w λe w'=>e= .returned (.slice none 0 0)/\w'=w:=by
 have h0:ab.underlying 46=some (.slice 178):=by kernel_rfl
 have hf:ab.funcs[113]? =some bm:=by kernel_rfl
 have hn:bm.ntmps=8:=by kernel_rfl
 have q: ∀(w:World) (a:Option Addr) (n c b c':Nat),(binOp .eql 46 (.slice a n c) (.slice none b c')).run ab w= .ok (.bool a.isNone) w:= λw a n c b c'=>ao w _ _ a n c b c' h0
 go_enter hf,hn
 go_wp2
 go_ret
 exact ⟨rfl,rfl⟩
theorem yQ (w:World) (ad:Addr) (n c:Nat) {v':Value} {w':World} (hr:(Builtin.append_ #[46,46] 46 #[.slice (some ⟨w.heap.size,0,none⟩) 0 0,.slice (some ad) n c]).run ab (w.alloc (.cells #[] 178))= .ok v' w'):
  Calls ab 113 #[.slice (some ad) n c] w λe w''=>e= .returned v'/\w''=w':=by
 have h0:ab.underlying 46=some (.slice 178):=by kernel_rfl
 have hf:ab.funcs[113]? =some bm:=by kernel_rfl
 have hn:bm.ntmps=8:=by kernel_rfl
 have q: ∀(w:World) (a:Option Addr) (n c b c':Nat),(binOp .eql 46 (.slice a n c) (.slice none b c')).run ab w= .ok (.bool a.isNone) w:= λw a n c b c'=>ao w _ _ a n c b c' h0
 have u: ∀w,aB ab (underlying 46) w= .ok (al 178) w:=run_underlying h0
 go_enter hf,hn
 go_wp2_with (at_builtin;refine Go.AM.wpList_append_run _ rfl _ _ 46 46 rfl _ _ rfl rfl hr ?_)
 go_wp2
 go_ret
 exact ⟨rfl,rfl⟩
theorem zI:ay ab ng ⟨.fresh,false,[1],2,λl=>match l with | [[a]]=>fm a | _=>none⟩:=
 xR (xW (t:=46) (e:=178) (by kernel_rfl) (by kernel_rfl) (by kernel_rfl) (by kernel_rfl) zr λw ad n c v' w' h=>yQ w ad n c h)
theorem wC:InsertWalks ab 118 46 3 4 2 where
 empty:=by
  intro w A A' n c i c' hi hn
  have h0:ab.underlying 46=some (.slice 178):=by kernel_rfl
  have hz:ab.cellsOf 178=2:=by kernel_rfl
  have hf:ab.funcs[118]? =some bb:=by kernel_rfl
  have a:bb.ntmps=95:=by kernel_rfl
  have u22: ∀w,aB ab (underlying 46) w= .ok (al 178) w:=run_underlying h0
  have u3: ∀w,aB ab (underlying 3) w= .ok (a1 .i64) w:=run_underlying (by kernel_rfl)
  have g:(0:Int)<=i:=by omega
  have j:(i:Int)<=n:=by omega
  go_enter hf,a
  go_wp2
  all_goals (go_ret;exact ⟨rfl,rfl⟩)
 last:=by
  intro w A A' n c m c' hn hm v' w' hr
  have h0:ab.underlying 46=some (.slice 178):=by kernel_rfl
  have hz:ab.cellsOf 178=2:=by kernel_rfl
  have hf:ab.funcs[118]? =some bb:=by kernel_rfl
  have a:bb.ntmps=95:=by kernel_rfl
  have u22: ∀w,aB ab (underlying 46) w= .ok (al 178) w:=run_underlying h0
  have u3: ∀w,aB ab (underlying 3) w= .ok (a1 .i64) w:=run_underlying (by kernel_rfl)
  have g:(0:Int)<=n:=by omega
  have o: ¬((m:Int)=0):=by omega
  go_enter hf,a
  go_wp2_with (at_builtin;refine Go.AM.wpList_append_run _ rfl _ _ 46 46 rfl _ _ rfl rfl hr ?_)
  all_goals (go_ret;exact ⟨rfl,rfl⟩)
 grow:=by
  intro w b off n c i m c' A' hi r hm h k w3 b2 c2 w1 w2 hr y d f
  have h0:ab.underlying 46=some (.slice 178):=by kernel_rfl
  have hz:ab.cellsOf 178=2:=by kernel_rfl
  have hf:ab.funcs[118]? =some bb:=by kernel_rfl
  have a:bb.ntmps=95:=by kernel_rfl
  have u22: ∀w,aB ab (underlying 46) w= .ok (al 178) w:=run_underlying h0
  have u3: ∀w,aB ab (underlying 3) w= .ok (a1 .i64) w:=run_underlying (by kernel_rfl)
  have o: ¬((m:Int)=0):=by omega
  have v: ¬((i:Int)=(n:Int)):=by omega
  have z:(c:Int) < (n:Int)+(m:Int):=by omega
  have q:i<=n:=by omega
  go_enter hf,a
  simp only [Nat.zero_add] at d f
  go_wp2_with (at_builtin;first | refine Go.AM.wpList_append_run _ rfl _ _ 46 3 rfl _ _ rfl rfl hr ?_ | refine wpList_copy_runI _ rfl _ _ 46 46 rfl _ _ rfl rfl d ?_)
  have mixed:ab.follows .mixedOrders=true:=by kernel_rfl
  have u:a7.wrap ((i:Int)+(m:Int))=(i:Int)+(m:Int):=by rw [a5];omega
  have g:(0:Int)<=(i:Int)+(m:Int):=by omega
  have t:((i:Int)+(m:Int)).toNat=i+m:=by omega
  have j: ¬(c2=i+m):=by omega
  have p: ¬(c=i):=by omega
  go_region_law_o (refine step_copy_runI rfl _ _ 46 46 rfl _ _ (by simp [a6,a8]) (by simp [a6,a8]) f ?_)
  go_wp2
  all_goals (go_ret;exact ⟨rfl,rfl⟩)
 shift:=by
  intro w b off n c i m c' A' hi r hm h k w2 w3 l d f
  have h0:ab.underlying 46=some (.slice 178):=by kernel_rfl
  have hz:ab.cellsOf 178=2:=by kernel_rfl
  have hf:ab.funcs[118]? =some bb:=by kernel_rfl
  have a:bb.ntmps=95:=by kernel_rfl
  have u22: ∀w,aB ab (underlying 46) w= .ok (al 178) w:=run_underlying h0
  have u3: ∀w,aB ab (underlying 3) w= .ok (a1 .i64) w:=run_underlying (by kernel_rfl)
  have s: ∀lb cb,(callFunc 179 #[.slice A' m c',.slice (some ⟨b,off+(i+m)*2,none⟩) lb cb]).run ab w= .ok (.value (.bool false)) w:= λlb cb=>by
   rw [run_callFunc_extern (fn:=Tryz.f179) (by kernel_rfl) (by kernel_rfl) (by kernel_rfl) (by kernel_rfl) (e:=a2 #[46,46] #[4]) (by kernel_rfl),l lb cb]
   rfl
  have o: ¬((m:Int)=0):=by omega
  have v: ¬((i:Int)=(n:Int)):=by omega
  have q:i<=n:=by omega
  have mixed:ab.follows .mixedOrders=true:=by kernel_rfl
  have u:a7.wrap ((i:Int)+(m:Int))=(i:Int)+(m:Int):=by rw [a5];omega
  have g:(0:Int)<=(i:Int)+(m:Int):=by omega
  have t:((i:Int)+(m:Int)).toNat=i+m:=by omega
  have j: ¬(c=i+m):=by omega
  have x:(i:Int)<=(n:Int)+(m:Int):=by omega
  have p: ¬(c=i):=by omega
  go_enter hf,a
  go_wp2_with (simp only [s])
  go_region_law_o (refine step_copy_runI rfl _ _ 46 46 rfl _ _ (by simp [a6,a8]) (by simp [a6,a8]) d ?_)
  go_wp2_with (at_builtin;refine wpList_copy_runI _ rfl _ _ 46 46 rfl _ _ rfl rfl f ?_)
  all_goals (go_ret;exact ⟨rfl,rfl⟩)
theorem yn:ay ab my ⟨.cons,false,[1],2,λl=>match l with | [[a],[b],[c]]=>de a b c | _=>none⟩:=
 uZ (e:=178) (by kernel_rfl) (by kernel_rfl) (by kernel_rfl) (by kernel_rfl) (by kernel_rfl) wC
theorem wT:InsertWalks ab 157 37 3 4 4 where
 empty:=by
  intro w A A' n c i c' hi hn
  have h0:ab.underlying 37=some (.slice 72):=by kernel_rfl
  have hz:ab.cellsOf 72=4:=by kernel_rfl
  have hf:ab.funcs[157]? =some bd:=by kernel_rfl
  have a:bd.ntmps=95:=by kernel_rfl
  have u22: ∀w,aB ab (underlying 37) w= .ok (al 72) w:=run_underlying h0
  have u3: ∀w,aB ab (underlying 3) w= .ok (a1 .i64) w:=run_underlying (by kernel_rfl)
  have g:(0:Int)<=i:=by omega
  have j:(i:Int)<=n:=by omega
  go_enter hf,a
  go_wp2
  all_goals (go_ret;exact ⟨rfl,rfl⟩)
 last:=by
  intro w A A' n c m c' hn hm v' w' hr
  have h0:ab.underlying 37=some (.slice 72):=by kernel_rfl
  have hz:ab.cellsOf 72=4:=by kernel_rfl
  have hf:ab.funcs[157]? =some bd:=by kernel_rfl
  have a:bd.ntmps=95:=by kernel_rfl
  have u22: ∀w,aB ab (underlying 37) w= .ok (al 72) w:=run_underlying h0
  have u3: ∀w,aB ab (underlying 3) w= .ok (a1 .i64) w:=run_underlying (by kernel_rfl)
  have g:(0:Int)<=n:=by omega
  have o: ¬((m:Int)=0):=by omega
  go_enter hf,a
  go_wp2_with (at_builtin;refine Go.AM.wpList_append_run _ rfl _ _ 37 37 rfl _ _ rfl rfl hr ?_)
  all_goals (go_ret;exact ⟨rfl,rfl⟩)
 grow:=by
  intro w b off n c i m c' A' hi r hm h k w3 b2 c2 w1 w2 hr y d f
  have h0:ab.underlying 37=some (.slice 72):=by kernel_rfl
  have hz:ab.cellsOf 72=4:=by kernel_rfl
  have hf:ab.funcs[157]? =some bd:=by kernel_rfl
  have a:bd.ntmps=95:=by kernel_rfl
  have u22: ∀w,aB ab (underlying 37) w= .ok (al 72) w:=run_underlying h0
  have u3: ∀w,aB ab (underlying 3) w= .ok (a1 .i64) w:=run_underlying (by kernel_rfl)
  have o: ¬((m:Int)=0):=by omega
  have v: ¬((i:Int)=(n:Int)):=by omega
  have z:(c:Int) < (n:Int)+(m:Int):=by omega
  have q:i<=n:=by omega
  go_enter hf,a
  simp only [Nat.zero_add] at d f
  go_wp2_with (at_builtin;first | refine Go.AM.wpList_append_run _ rfl _ _ 37 3 rfl _ _ rfl rfl hr ?_ | refine wpList_copy_runI _ rfl _ _ 37 37 rfl _ _ rfl rfl d ?_)
  have mixed:ab.follows .mixedOrders=true:=by kernel_rfl
  have u:a7.wrap ((i:Int)+(m:Int))=(i:Int)+(m:Int):=by rw [a5];omega
  have g:(0:Int)<=(i:Int)+(m:Int):=by omega
  have t:((i:Int)+(m:Int)).toNat=i+m:=by omega
  have j: ¬(c2=i+m):=by omega
  have p: ¬(c=i):=by omega
  go_region_law_o (refine step_copy_runI rfl _ _ 37 37 rfl _ _ (by simp [a6,a8]) (by simp [a6,a8]) f ?_)
  go_wp2
  all_goals (go_ret;exact ⟨rfl,rfl⟩)
 shift:=by
  intro w b off n c i m c' A' hi r hm h k w2 w3 l d f
  have h0:ab.underlying 37=some (.slice 72):=by kernel_rfl
  have hz:ab.cellsOf 72=4:=by kernel_rfl
  have hf:ab.funcs[157]? =some bd:=by kernel_rfl
  have a:bd.ntmps=95:=by kernel_rfl
  have u22: ∀w,aB ab (underlying 37) w= .ok (al 72) w:=run_underlying h0
  have u3: ∀w,aB ab (underlying 3) w= .ok (a1 .i64) w:=run_underlying (by kernel_rfl)
  have s: ∀lb cb,(callFunc 209 #[.slice A' m c',.slice (some ⟨b,off+(i+m)*4,none⟩) lb cb]).run ab w= .ok (.value (.bool false)) w:= λlb cb=>by
   rw [run_callFunc_extern (fn:=Tryz.f209) (by kernel_rfl) (by kernel_rfl) (by kernel_rfl) (by kernel_rfl) (e:=a2 #[37,37] #[4]) (by kernel_rfl),l lb cb]
   rfl
  have o: ¬((m:Int)=0):=by omega
  have v: ¬((i:Int)=(n:Int)):=by omega
  have q:i<=n:=by omega
  have mixed:ab.follows .mixedOrders=true:=by kernel_rfl
  have u:a7.wrap ((i:Int)+(m:Int))=(i:Int)+(m:Int):=by rw [a5];omega
  have g:(0:Int)<=(i:Int)+(m:Int):=by omega
  have t:((i:Int)+(m:Int)).toNat=i+m:=by omega
  have j: ¬(c=i+m):=by omega
  have x:(i:Int)<=(n:Int)+(m:Int):=by omega
  have p: ¬(c=i):=by omega
  go_enter hf,a
  go_wp2_with (simp only [s])
  go_region_law_o (refine step_copy_runI rfl _ _ 37 37 rfl _ _ (by simp [a6,a8]) (by simp [a6,a8]) d ?_)
  go_wp2_with (at_builtin;refine wpList_copy_runI _ rfl _ _ 37 37 rfl _ _ rfl rfl f ?_)
  all_goals (go_ret;exact ⟨rfl,rfl⟩)
theorem zw:ay ab nr ⟨.cons,false,[1],4,λl=>match l with | [[a],[b],[c]]=>dx a b c | _=>none⟩:=
 uZ (e:=72) (by kernel_rfl) (by kernel_rfl) (by kernel_rfl) (by kernel_rfl) (by kernel_rfl) wT
end Go.AM
