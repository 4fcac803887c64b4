/- Walks of the library’s slices.Clone and slices.Insert, and their contracts. -/
import Derived.Test.YtgoenohknokcmaaGreatSh
import Derived.Test.YtgoenohknokcmaaGreatProg
import Derived.Deep.LoopGhost
open Go.Proofs.Tryz renaming prog->ab,f118->bd,f157->bf,f86->bm,f113->br,f41->bs,f69->bx
open Go.TypeDesc renaming slice->ao,int->a2
open Go.Lib renaming run_eql_slice_nil->aB
open Go.Sem renaming run->a1
open Go.Extern.SlicesOverlaps renaming overlaps->a5
open Go.IntKind renaming wrap_i64->a6,i64->a8
open Go.Act renaming eval->a7,put->bb
set_option linter.unusedVariables false
set_option linter.unusedSimpArgs false
set_option maxRecDepth 100000
namespace Go.AM
open Go.Proofs Go.RowKit Go.Lib
theorem y9 (w:World) (n c:Nat):Calls ab 41 #[.slice none n c] w λe w'=>e= .returned (.slice none 0 0)/\w'=w:=by
 have h0:ab.underlying 28=some (.slice 60):=by kernel_rfl
 have hf:ab.funcs[41]? =some bs:=by kernel_rfl
 have hn:bs.ntmps=8:=by kernel_rfl
 have q: ∀(w:World) (a:Option Addr) (n c b c':Nat),(binOp .eql 28 (.slice a n c) (.slice none b c')).run ab w= .ok (.bool a.isNone) w:= λw a n c b c'=>aB w _ _ a n c b c' h0
 go_enter hf,hn
 go_wp2
 go_ret
 exact ⟨rfl,rfl⟩
theorem xE (w:World) (ad:Addr) (n c:Nat) {v':Value} {w':World} (hr:(Builtin.append_ #[28,28] 28 #[.slice (some ⟨w.heap.size,0,none⟩) 0 0,.slice (some ad) n c]).run ab (w.alloc (.cells #[] 60))= .ok v' w'):
  Calls ab 41 #[.slice (some ad) n c] w λe w''=>e= .returned v'/\w''=w':=by
 have h0:ab.underlying 28=some (.slice 60):=by kernel_rfl
 have hf:ab.funcs[41]? =some bs:=by kernel_rfl
 have hn:bs.ntmps=8:=by kernel_rfl
 have q: ∀(w:World) (a:Option Addr) (n c b c':Nat),(binOp .eql 28 (.slice a n c) (.slice none b c')).run ab w= .ok (.bool a.isNone) w:= λw a n c b c'=>aB w _ _ a n c b c' h0
 have u: ∀w,a1 ab (underlying 28) w= .ok (ao 60) w:=run_underlying h0
 go_enter hf,hn
 go_wp2_with (at_builtin;refine Go.AM.wpList_append_run _ rfl _ _ 28 28 rfl _ _ rfl rfl hr ?_)
 go_wp2
 go_ret
 exact ⟨rfl,rfl⟩
theorem ze:ax ab mM ⟨.fresh,false,[1],6,λl=>match l with | [[a]]=>dz a | _=>none⟩:=
 xX (xS (t:=28) (e:=60) (by kernel_rfl) (by kernel_rfl) (by kernel_rfl) (by kernel_rfl) y9 λw ad n c v' w' h=>xE w ad n c h)
theorem zr (w:World) (n c:Nat):Calls ab 69 #[.slice none n c] w λe w'=>e= .returned (.slice none 0 0)/\w'=w:=by
 have h0:ab.underlying 37=some (.slice 72):=by kernel_rfl
 have hf:ab.funcs[69]? =some bx:=by kernel_rfl
 have hn:bx.ntmps=8:=by kernel_rfl
 have q: ∀(w:World) (a:Option Addr) (n c b c':Nat),(binOp .eql 37 (.slice a n c) (.slice none b c')).run ab w= .ok (.bool a.isNone) w:= λw a n c b c'=>aB w _ _ a n c b c' h0
 go_enter hf,hn
 go_wp2
 go_ret
 exact ⟨rfl,rfl⟩
theorem y7 (w:World) (ad:Addr) (n c:Nat) {v':Value} {w':World} (hr:(Builtin.append_ #[37,37] 37 #[.slice (some ⟨w.heap.size,0,none⟩) 0 0,.slice (some ad) n c]).run ab (w.alloc (.cells #[] 72))= .ok v' w'):
  Calls ab 69 #[.slice (some ad) n c] w λe w''=>e= .returned v'/\w''=w':=by
 have h0:ab.underlying 37=some (.slice 72):=by kernel_rfl
 have hf:ab.funcs[69]? =some bx:=by kernel_rfl
 have hn:bx.ntmps=8:=by kernel_rfl
 have q: ∀(w:World) (a:Option Addr) (n c b c':Nat),(binOp .eql 37 (.slice a n c) (.slice none b c')).run ab w= .ok (.bool a.isNone) w:= λw a n c b c'=>aB w _ _ a n c b c' h0
 have u: ∀w,a1 ab (underlying 37) w= .ok (ao 72) w:=run_underlying h0
 go_enter hf,hn
 go_wp2_with (at_builtin;refine Go.AM.wpList_append_run _ rfl _ _ 37 37 rfl _ _ rfl rfl hr ?_)
 go_wp2
 go_ret
 exact ⟨rfl,rfl⟩
theorem A9:ax ab nP ⟨.fresh,false,[1],4,λl=>match l with | [[a]]=>gh a | _=>none⟩:=
 xX (xS (t:=37) (e:=72) (by kernel_rfl) (by kernel_rfl) (by kernel_rfl) (by kernel_rfl) zr λw ad n c v' w' h=>y7 w ad n c h)
theorem vT:InsertWalks ab 86 28 3 4 6 where
 empty:=by
  intro w A A' n c i c' hi hn
  have h0:ab.underlying 28=some (.slice 60):=by kernel_rfl
  have hz:ab.cellsOf 60=6:=by kernel_rfl
  have hf:ab.funcs[86]? =some bm:=by kernel_rfl
  have a:bm.ntmps=95:=by kernel_rfl
  have u22: ∀w,a1 ab (underlying 28) w= .ok (ao 60) w:=run_underlying h0
  have u3: ∀w,a1 ab (underlying 3) w= .ok (a2 .i64) w:=run_underlying (by kernel_rfl)
  have g:(0:Int)<=i:=by omega
  have j:(i:Int)<=n:=by omega
  go_enter hf,a
  go_wp2
  all_goals (go_ret;exact ⟨rfl,rfl⟩)
 last:=by
  intro w A A' n c m c' hn hm v' w' hr
  have h0:ab.underlying 28=some (.slice 60):=by kernel_rfl
  have hz:ab.cellsOf 60=6:=by kernel_rfl
  have hf:ab.funcs[86]? =some bm:=by kernel_rfl
  have a:bm.ntmps=95:=by kernel_rfl
  have u22: ∀w,a1 ab (underlying 28) w= .ok (ao 60) w:=run_underlying h0
  have u3: ∀w,a1 ab (underlying 3) w= .ok (a2 .i64) w:=run_underlying (by kernel_rfl)
  have g:(0:Int)<=n:=by omega
  have o: ¬((m:Int)=0):=by omega
  go_enter hf,a
  go_wp2_with (at_builtin;refine Go.AM.wpList_append_run _ rfl _ _ 28 28 rfl _ _ rfl rfl hr ?_)
  all_goals (go_ret;exact ⟨rfl,rfl⟩)
 grow:=by
  intro w b off n c i m c' A' hi r hm h k w3 b2 c2 w1 w2 hr y d f
  have h0:ab.underlying 28=some (.slice 60):=by kernel_rfl
  have hz:ab.cellsOf 60=6:=by kernel_rfl
  have hf:ab.funcs[86]? =some bm:=by kernel_rfl
  have a:bm.ntmps=95:=by kernel_rfl
  have u22: ∀w,a1 ab (underlying 28) w= .ok (ao 60) w:=run_underlying h0
  have u3: ∀w,a1 ab (underlying 3) w= .ok (a2 .i64) w:=run_underlying (by kernel_rfl)
  have o: ¬((m:Int)=0):=by omega
  have v: ¬((i:Int)=(n:Int)):=by omega
  have z:(c:Int) < (n:Int)+(m:Int):=by omega
  have q:i<=n:=by omega
  go_enter hf,a
  simp only [Nat.zero_add] at d f
  go_wp2_with (at_builtin;first | refine Go.AM.wpList_append_run _ rfl _ _ 28 3 rfl _ _ rfl rfl hr ?_ | refine wpList_copy_runI _ rfl _ _ 28 28 rfl _ _ rfl rfl d ?_)
  have mixed:ab.follows .mixedOrders=true:=by kernel_rfl
  have u:a8.wrap ((i:Int)+(m:Int))=(i:Int)+(m:Int):=by rw [a6];omega
  have g:(0:Int)<=(i:Int)+(m:Int):=by omega
  have t:((i:Int)+(m:Int)).toNat=i+m:=by omega
  have j: ¬(c2=i+m):=by omega
  have p: ¬(c=i):=by omega
  go_region_law_o (refine step_copy_runI rfl _ _ 28 28 rfl _ _ (by simp [a7,bb]) (by simp [a7,bb]) f ?_)
  go_wp2
  all_goals (go_ret;exact ⟨rfl,rfl⟩)
 shift:=by
  intro w b off n c i m c' A' hi r hm h k w2 w3 l d f
  have h0:ab.underlying 28=some (.slice 60):=by kernel_rfl
  have hz:ab.cellsOf 60=6:=by kernel_rfl
  have hf:ab.funcs[86]? =some bm:=by kernel_rfl
  have a:bm.ntmps=95:=by kernel_rfl
  have u22: ∀w,a1 ab (underlying 28) w= .ok (ao 60) w:=run_underlying h0
  have u3: ∀w,a1 ab (underlying 3) w= .ok (a2 .i64) w:=run_underlying (by kernel_rfl)
  have s: ∀lb cb,(callFunc 150 #[.slice A' m c',.slice (some ⟨b,off+(i+m)*6,none⟩) lb cb]).run ab w= .ok (.value (.bool false)) w:= λlb cb=>by
   rw [run_callFunc_extern (fn:=Tryz.f150) (by kernel_rfl) (by kernel_rfl) (by kernel_rfl) (by kernel_rfl) (e:=a5 #[28,28] #[4]) (by kernel_rfl),l lb cb]
   rfl
  have o: ¬((m:Int)=0):=by omega
  have v: ¬((i:Int)=(n:Int)):=by omega
  have q:i<=n:=by omega
  have mixed:ab.follows .mixedOrders=true:=by kernel_rfl
  have u:a8.wrap ((i:Int)+(m:Int))=(i:Int)+(m:Int):=by rw [a6];omega
  have g:(0:Int)<=(i:Int)+(m:Int):=by omega
  have t:((i:Int)+(m:Int)).toNat=i+m:=by omega
  have j: ¬(c=i+m):=by omega
  have x:(i:Int)<=(n:Int)+(m:Int):=by omega
  have p: ¬(c=i):=by omega
  go_enter hf,a
  go_wp2_with (simp only [s])
  go_region_law_o (refine step_copy_runI rfl _ _ 28 28 rfl _ _ (by simp [a7,bb]) (by simp [a7,bb]) d ?_)
  go_wp2_with (at_builtin;refine wpList_copy_runI _ rfl _ _ 28 28 rfl _ _ rfl rfl f ?_)
  all_goals (go_ret;exact ⟨rfl,rfl⟩)
theorem yh:ax ab lB ⟨.cons,false,[1],6,λl=>match l with | [[a],[b],[c]]=>ee a b c | _=>none⟩:=
 sW (e:=60) (by kernel_rfl) (by kernel_rfl) (by kernel_rfl) (by kernel_rfl) (by kernel_rfl) vT
theorem yW (w:World) (n c:Nat):Calls ab 113 #[.slice none n c] w λe w'=>e= .returned (.slice none 0 0)/\w'=w:=by
 have h0:ab.underlying 46=some (.slice 178):=by kernel_rfl
 have hf:ab.funcs[113]? =some br:=by kernel_rfl
 have hn:br.ntmps=8:=by kernel_rfl
 have q: ∀(w:World) (a:Option Addr) (n c b c':Nat),(binOp .eql 46 (.slice a n c) (.slice none b c')).run ab w= .ok (.bool a.isNone) w:= λw a n c b c'=>aB w _ _ a n c b c' h0
 go_enter hf,hn
 go_wp2
 go_ret
 exact ⟨rfl,rfl⟩
theorem xD (w:World) (ad:Addr) (n c:Nat) {v':Value} {w':World} (hr:(Builtin.append_ #[46,46] 46 #[.slice (some ⟨w.heap.size,0,none⟩) 0 0,.slice (some ad) n c]).run ab (w.alloc (.cells #[] 178))= .ok v' w'):
  Calls ab 113 #[.slice (some ad) n c] w λe w''=>e= .returned v'/\w''=w':=by
 have h0:ab.underlying 46=some (.slice 178):=by kernel_rfl
 have hf:ab.funcs[113]? =some br:=by kernel_rfl
 have hn:br.ntmps=8:=by kernel_rfl
 have q: ∀(w:World) (a:Option Addr) (n c b c':Nat),(binOp .eql 46 (.slice a n c) (.slice none b c')).run ab w= .ok (.bool a.isNone) w:= λw a n c b c'=>aB w _ _ a n c b c' h0
 have u: ∀w,a1 ab (underlying 46) w= .ok (ao 178) w:=run_underlying h0
 go_enter hf,hn
 go_wp2_with (at_builtin;refine Go.AM.wpList_append_run _ rfl _ _ 46 46 rfl _ _ rfl rfl hr ?_)
 go_wp2
 go_ret
 exact ⟨rfl,rfl⟩
theorem yV:ax ab mH ⟨.fresh,false,[1],2,λl=>match l with | [[a]]=>e9 a | _=>none⟩:=
 xX (xS (t:=46) (e:=178) (by kernel_rfl) (by kernel_rfl) (by kernel_rfl) (by kernel_rfl) yW λw ad n c v' w' h=>xD w ad n c h)
theorem vQ:InsertWalks ab 118 46 3 4 2 where
 empty:=by
  intro w A A' n c i c' hi hn
  have h0:ab.underlying 46=some (.slice 178):=by kernel_rfl
  have hz:ab.cellsOf 178=2:=by kernel_rfl
  have hf:ab.funcs[118]? =some bd:=by kernel_rfl
  have a:bd.ntmps=95:=by kernel_rfl
  have u22: ∀w,a1 ab (underlying 46) w= .ok (ao 178) w:=run_underlying h0
  have u3: ∀w,a1 ab (underlying 3) w= .ok (a2 .i64) w:=run_underlying (by kernel_rfl)
  have g:(0:Int)<=i:=by omega
  have j:(i:Int)<=n:=by omega
  go_enter hf,a
  go_wp2
  all_goals (go_ret;exact ⟨rfl,rfl⟩)
 last:=by
  intro w A A' n c m c' hn hm v' w' hr
  have h0:ab.underlying 46=some (.slice 178):=by kernel_rfl
  have hz:ab.cellsOf 178=2:=by kernel_rfl
  have hf:ab.funcs[118]? =some bd:=by kernel_rfl
  have a:bd.ntmps=95:=by kernel_rfl
  have u22: ∀w,a1 ab (underlying 46) w= .ok (ao 178) w:=run_underlying h0
  have u3: ∀w,a1 ab (underlying 3) w= .ok (a2 .i64) w:=run_underlying (by kernel_rfl)
  have g:(0:Int)<=n:=by omega
  have o: ¬((m:Int)=0):=by omega
  go_enter hf,a
  go_wp2_with (at_builtin;refine Go.AM.wpList_append_run _ rfl _ _ 46 46 rfl _ _ rfl rfl hr ?_)
  all_goals (go_ret;exact ⟨rfl,rfl⟩)
 grow:=by
  intro w b off n c i m c' A' hi r hm h k w3 b2 c2 w1 w2 hr y d f
  have h0:ab.underlying 46=some (.slice 178):=by kernel_rfl
  have hz:ab.cellsOf 178=2:=by kernel_rfl
  have hf:ab.funcs[118]? =some bd:=by kernel_rfl
  have a:bd.ntmps=95:=by kernel_rfl
  have u22: ∀w,a1 ab (underlying 46) w= .ok (ao 178) w:=run_underlying h0
  have u3: ∀w,a1 ab (underlying 3) w= .ok (a2 .i64) w:=run_underlying (by kernel_rfl)
  have o: ¬((m:Int)=0):=by omega
  have v: ¬((i:Int)=(n:Int)):=by omega
  have z:(c:Int) < (n:Int)+(m:Int):=by omega
  have q:i<=n:=by omega
  go_enter hf,a
  simp only [Nat.zero_add] at d f
  go_wp2_with (at_builtin;first | refine Go.AM.wpList_append_run _ rfl _ _ 46 3 rfl _ _ rfl rfl hr ?_ | refine wpList_copy_runI _ rfl _ _ 46 46 rfl _ _ rfl rfl d ?_)
  have mixed:ab.follows .mixedOrders=true:=by kernel_rfl
  have u:a8.wrap ((i:Int)+(m:Int))=(i:Int)+(m:Int):=by rw [a6];omega
  have g:(0:Int)<=(i:Int)+(m:Int):=by omega
  have t:((i:Int)+(m:Int)).toNat=i+m:=by omega
  have j: ¬(c2=i+m):=by omega
  have p: ¬(c=i):=by omega
  go_region_law_o (refine step_copy_runI rfl _ _ 46 46 rfl _ _ (by simp [a7,bb]) (by simp [a7,bb]) f ?_)
  go_wp2
  all_goals (go_ret;exact ⟨rfl,rfl⟩)
 shift:=by
  intro w b off n c i m c' A' hi r hm h k w2 w3 l d f
  have h0:ab.underlying 46=some (.slice 178):=by kernel_rfl
  have hz:ab.cellsOf 178=2:=by kernel_rfl
  have hf:ab.funcs[118]? =some bd:=by kernel_rfl
  have a:bd.ntmps=95:=by kernel_rfl
  have u22: ∀w,a1 ab (underlying 46) w= .ok (ao 178) w:=run_underlying h0
  have u3: ∀w,a1 ab (underlying 3) w= .ok (a2 .i64) w:=run_underlying (by kernel_rfl)
  have s: ∀lb cb,(callFunc 179 #[.slice A' m c',.slice (some ⟨b,off+(i+m)*2,none⟩) lb cb]).run ab w= .ok (.value (.bool false)) w:= λlb cb=>by
   rw [run_callFunc_extern (fn:=Tryz.f179) (by kernel_rfl) (by kernel_rfl) (by kernel_rfl) (by kernel_rfl) (e:=a5 #[46,46] #[4]) (by kernel_rfl),l lb cb]
   rfl
  have o: ¬((m:Int)=0):=by omega
  have v: ¬((i:Int)=(n:Int)):=by omega
  have q:i<=n:=by omega
  have mixed:ab.follows .mixedOrders=true:=by kernel_rfl
  have u:a8.wrap ((i:Int)+(m:Int))=(i:Int)+(m:Int):=by rw [a6];omega
  have g:(0:Int)<=(i:Int)+(m:Int):=by omega
  have t:((i:Int)+(m:Int)).toNat=i+m:=by omega
  have j: ¬(c=i+m):=by omega
  have x:(i:Int)<=(n:Int)+(m:Int):=by omega
  have p: ¬(c=i):=by omega
  go_enter hf,a
  go_wp2_with (simp only [s])
  go_region_law_o (refine step_copy_runI rfl _ _ 46 46 rfl _ _ (by simp [a7,bb]) (by simp [a7,bb]) d ?_)
  go_wp2_with (at_builtin;refine wpList_copy_runI _ rfl _ _ 46 46 rfl _ _ rfl rfl f ?_)
  all_goals (go_ret;exact ⟨rfl,rfl⟩)
theorem xz:ax ab lO ⟨.cons,false,[1],2,λl=>match l with | [[a],[b],[c]]=>dh a b c | _=>none⟩:=
 sW (e:=178) (by kernel_rfl) (by kernel_rfl) (by kernel_rfl) (by kernel_rfl) (by kernel_rfl) vQ
theorem wT:InsertWalks ab 157 37 3 4 4 where
 empty:=by
  intro w A A' n c i c' hi hn
  have h0:ab.underlying 37=some (.slice 72):=by kernel_rfl
  have hz:ab.cellsOf 72=4:=by kernel_rfl
  have hf:ab.funcs[157]? =some bf:=by kernel_rfl
  have a:bf.ntmps=95:=by kernel_rfl
  have u22: ∀w,a1 ab (underlying 37) w= .ok (ao 72) w:=run_underlying h0
  have u3: ∀w,a1 ab (underlying 3) w= .ok (a2 .i64) w:=run_underlying (by kernel_rfl)
  have g:(0:Int)<=i:=by omega
  have j:(i:Int)<=n:=by omega
  go_enter hf,a
  go_wp2
  all_goals (go_ret;exact ⟨rfl,rfl⟩)
 last:=by
  intro w A A' n c m c' hn hm v' w' hr
  have h0:ab.underlying 37=some (.slice 72):=by kernel_rfl
  have hz:ab.cellsOf 72=4:=by kernel_rfl
  have hf:ab.funcs[157]? =some bf:=by kernel_rfl
  have a:bf.ntmps=95:=by kernel_rfl
  have u22: ∀w,a1 ab (underlying 37) w= .ok (ao 72) w:=run_underlying h0
  have u3: ∀w,a1 ab (underlying 3) w= .ok (a2 .i64) w:=run_underlying (by kernel_rfl)
  have g:(0:Int)<=n:=by omega
  have o: ¬((m:Int)=0):=by omega
  go_enter hf,a
  go_wp2_with (at_builtin;refine Go.AM.wpList_append_run _ rfl _ _ 37 37 rfl _ _ rfl rfl hr ?_)
  all_goals (go_ret;exact ⟨rfl,rfl⟩)
 grow:=by
  intro w b off n c i m c' A' hi r hm h k w3 b2 c2 w1 w2 hr y d f
  have h0:ab.underlying 37=some (.slice 72):=by kernel_rfl
  have hz:ab.cellsOf 72=4:=by kernel_rfl
  have hf:ab.funcs[157]? =some bf:=by kernel_rfl
  have a:bf.ntmps=95:=by kernel_rfl
  have u22: ∀w,a1 ab (underlying 37) w= .ok (ao 72) w:=run_underlying h0
  have u3: ∀w,a1 ab (underlying 3) w= .ok (a2 .i64) w:=run_underlying (by kernel_rfl)
  have o: ¬((m:Int)=0):=by omega
  have v: ¬((i:Int)=(n:Int)):=by omega
  have z:(c:Int) < (n:Int)+(m:Int):=by omega
  have q:i<=n:=by omega
  go_enter hf,a
  simp only [Nat.zero_add] at d f
  go_wp2_with (at_builtin;first | refine Go.AM.wpList_append_run _ rfl _ _ 37 3 rfl _ _ rfl rfl hr ?_ | refine wpList_copy_runI _ rfl _ _ 37 37 rfl _ _ rfl rfl d ?_)
  have mixed:ab.follows .mixedOrders=true:=by kernel_rfl
  have u:a8.wrap ((i:Int)+(m:Int))=(i:Int)+(m:Int):=by rw [a6];omega
  have g:(0:Int)<=(i:Int)+(m:Int):=by omega
  have t:((i:Int)+(m:Int)).toNat=i+m:=by omega
  have j: ¬(c2=i+m):=by omega
  have p: ¬(c=i):=by omega
  go_region_law_o (refine step_copy_runI rfl _ _ 37 37 rfl _ _ (by simp [a7,bb]) (by simp [a7,bb]) f ?_)
  go_wp2
  all_goals (go_ret;exact ⟨rfl,rfl⟩)
 shift:=by
  intro w b off n c i m c' A' hi r hm h k w2 w3 l d f
  have h0:ab.underlying 37=some (.slice 72):=by kernel_rfl
  have hz:ab.cellsOf 72=4:=by kernel_rfl
  have hf:ab.funcs[157]? =some bf:=by kernel_rfl
  have a:bf.ntmps=95:=by kernel_rfl
  have u22: ∀w,a1 ab (underlying 37) w= .ok (ao 72) w:=run_underlying h0
  have u3: ∀w,a1 ab (underlying 3) w= .ok (a2 .i64) w:=run_underlying (by kernel_rfl)
  have s: ∀lb cb,(callFunc 209 #[.slice A' m c',.slice (some ⟨b,off+(i+m)*4,none⟩) lb cb]).run ab w= .ok (.value (.bool false)) w:= λlb cb=>by
   rw [run_callFunc_extern (fn:=Tryz.f209) (by kernel_rfl) (by kernel_rfl) (by kernel_rfl) (by kernel_rfl) (e:=a5 #[37,37] #[4]) (by kernel_rfl),l lb cb]
   rfl
  have o: ¬((m:Int)=0):=by omega
  have v: ¬((i:Int)=(n:Int)):=by omega
  have q:i<=n:=by omega
  have mixed:ab.follows .mixedOrders=true:=by kernel_rfl
  have u:a8.wrap ((i:Int)+(m:Int))=(i:Int)+(m:Int):=by rw [a6];omega
  have g:(0:Int)<=(i:Int)+(m:Int):=by omega
  have t:((i:Int)+(m:Int)).toNat=i+m:=by omega
  have j: ¬(c=i+m):=by omega
  have x:(i:Int)<=(n:Int)+(m:Int):=by omega
  have p: ¬(c=i):=by omega
  go_enter hf,a
  go_wp2_with (simp only [s])
  go_region_law_o (refine step_copy_runI rfl _ _ 37 37 rfl _ _ (by simp [a7,bb]) (by simp [a7,bb]) d ?_)
  go_wp2_with (at_builtin;refine wpList_copy_runI _ rfl _ _ 37 37 rfl _ _ rfl rfl f ?_)
  all_goals (go_ret;exact ⟨rfl,rfl⟩)
theorem y8:ax ab mF ⟨.cons,false,[1],4,λl=>match l with | [[a],[b],[c]]=>dy a b c | _=>none⟩:=
 sW (e:=72) (by kernel_rfl) (by kernel_rfl) (by kernel_rfl) (by kernel_rfl) (by kernel_rfl) wT
end Go.AM
