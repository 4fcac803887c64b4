/- Which row stands ahead of which; whether a number is among others. -/
import Derived.Test.YtgoenohknokcmaaGreatAe
import Derived.Test.YtgoenohknokcmaaGreatMv
import Derived.Test.YtgoenohknokcmaaGreatFl
set_option linter.unusedVariables false
set_option linter.unusedSimpArgs false
namespace Go.AM
def eI (z:Int):List IV:=[.int .i64 z]
theorem Ad {zs:List Int} (hl:zs.length < rounds) (x:Int):cG (.lst (zs.map eI)) (.int .i64 x)=some [.bool (zs.contains x)]:=by
 unfold cG gr
 simp only [aD,Option.bind_some]
 rw [kW (vs0:=[IV.int .i64 0]) (fun i=>[IV.int .i64 (i:Int)]) (fun z=>decide (x=z)) 1 (fun i=>[IV.int .i64 (i:Int)]) 0 [] zs rfl hl]
 ·have hc:zs.contains x=(zs.findIdx? fun z=>decide (x=z)).isSome:=by
   rw [List.findIdx?_isSome]
   rw [Bool.eq_iff_iff]
   simp
  rw [hc]
  cases h:zs.findIdx? (fun z=>decide (x=z)) with
  | none=>simp
  | some i=>simp
 ·intro i z hz
  have hi:i < zs.length:=(List.getElem?_eq_some_iff.1 hz).1
  have hr:=bc
  have e1:=nK (enc:=eI) (sz:=1) hz rfl Nat.zero_lt_one
  have e2:qA (.lst (zs.map eI)) i 0=some (.int .i64 z):=er hz
  unfold jG
  simp only [ag,aJ,List.length_map,Int.ofNat_lt,hi,decide_true,aj,Option.bind_some,e1,e2,nW,aQ,aL (show i < 2 ^ 62 by omega),decide_eq_true_eq]
  split<;>rfl
 ·unfold jG
  simp
theorem J8: ∀(zs:List Int) (x:Int),zs.length<=100000->(fun l=>match l with | [[x0],[x1]]=>cG x0 x1 | _=>none) [[Gq zs],[.int .i64 x]]=some [.bool (zs.contains x)]:=fun zs x h=>Ad (by rw [bc];omega) x
end Go.AM
