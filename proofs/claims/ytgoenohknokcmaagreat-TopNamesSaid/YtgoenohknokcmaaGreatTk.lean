/- Whether a number is among others. -/
import Derived.Test.YtgoenohknokcmaaGreatMv
set_option linter.unusedVariables false
set_option linter.unusedSimpArgs false
namespace Go.AM
def eI (z:Int):List IV:=[.int .i64 z]
theorem DR {zs:List Int} (hl:zs.length < rounds) (x:Int):dK (.lst (zs.map eI)) (.int .i64 x)=some [.bool (zs.contains x)]:=by
 unfold dK j5
 simp only [ax,Option.bind_some]
 rw [lM (vs0:=[IV.int .i64 0]) (λi=>[IV.int .i64 (i:Int)]) (λz=>decide (x=z)) 1 (λi=>[IV.int .i64 (i:Int)]) 0 [] zs rfl hl]
 ·have hc:zs.contains x=(zs.findIdx? λz=>decide (x=z)).isSome:=by
   rw [List.findIdx?_isSome]
   rw [Bool.eq_iff_iff]
   simp
  rw [hc]
  cases h:zs.findIdx? (λz=>decide (x=z)) with
  | none=>simp
  | some i=>simp
 ·intro i z hz
  have hi:i < zs.length:=(List.getElem?_eq_some_iff.1 hz).1
  have hr:=bg
  have a:=dY (enc:=eI) (sz:=1) hz rfl Nat.zero_lt_one
  have b:dh (.lst (zs.map eI)) i 0=some (.int .i64 z):=cf hz
  unfold nt
  simp only [af,an,List.length_map,Int.ofNat_lt,hi,decide_true,ah,Option.bind_some,a,b,db,bw,au (show i < 2 ^ 62 by omega),decide_eq_true_eq]
  split<;>rfl
 ·unfold nt
  simp
theorem OD: ∀(zs:List Int) (x:Int),zs.length<=100000->(λl=>match l with | [[a],[b]]=>dK a b | _=>none) [[KJ zs],[.int .i64 x]]=some [.bool (zs.contains x)]:= λzs x h=>DR (by rw [bg];omega) x
end Go.AM
