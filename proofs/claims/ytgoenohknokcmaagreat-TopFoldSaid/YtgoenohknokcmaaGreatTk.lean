/- Whether a number is among others. -/
import Derived.Test.YtgoenohknokcmaaGreatMv
set_option linter.unusedVariables false
set_option linter.unusedSimpArgs false
namespace Go.AM
def eI (z:Int):List IV:=[.int .i64 z]
theorem DW {zs:List Int} (hl:zs.length < rounds) (x:Int):dK (.lst (zs.map eI)) (.int .i64 x)=some [.bool (zs.contains x)]:=by
 unfold dK jH
 simp only [aw,Option.bind_some]
 rw [k9 (vs0:=[IV.int .i64 0]) (λi=>[IV.int .i64 (i:Int)]) (λz=>decide (x=z)) 1 (λi=>[IV.int .i64 (i:Int)]) 0 [] zs rfl hl]
 ·have hc:zs.contains x=(zs.findIdx? λz=>decide (x=z)).isSome:=by
   rw [List.findIdx?_isSome]
   rw [Bool.eq_iff_iff]
   simp
  rw [hc]
  cases h:zs.findIdx? (λz=>decide (x=z)) with
  | none=>simp
  | some i=>simp
 ·intro i z hz
  have hi:i < zs.length:=(List.getElem?_eq_some_iff.1 hz).1
  have hr:=aO
  have a:=ea (enc:=eI) (sz:=1) hz rfl Nat.zero_lt_one
  have b:cV (.lst (zs.map eI)) i 0=some (.int .i64 z):=bX hz
  unfold mI
  simp only [af,al,List.length_map,Int.ofNat_lt,hi,decide_true,ah,Option.bind_some,a,b,dI,bj,au (show i < 2 ^ 62 by omega),decide_eq_true_eq]
  split<;>rfl
 ·unfold mI
  simp
theorem Pn: ∀(zs:List Int) (x:Int),zs.length<=100000->(λl=>match l with | [[a],[b]]=>dK a b | _=>none) [[K3 zs],[.int .i64 x]]=some [.bool (zs.contains x)]:= λzs x h=>DW (by rw [aO];omega) x
end Go.AM
