/- Walk by hand: tree.Reached: who is reached, whatever order the map gives. -/
import Derived.Test.YtgoenohknokcmaaGreatHq
import Derived.Lib.QuietBelowIn
set_option linter.unusedVariables false
set_option linter.unusedSimpArgs false
set_option maxRecDepth 100000
namespace Go.AM
open Go.Proofs Go.RowKit Go.Shelf Go.Maps Go.Sort
 attribute [local go_sem] Oper.semAt_some
theorem QS.mono {W:World} {B a:Nat} {o:Option (List Int)} {c:Value} {b:Bool} (h:QS W a o c b) (d:B<=a):QS W B o c b:=by
 cases o with
 | none=>exact h
 | some l=>
   refine ⟨h.1,h.2.1,?_⟩
   rcases h.2.2 with h0 | ⟨g,cap,cur,e,h1,h2⟩
   ·exact .inl h0
   ·exact .inr ⟨g,cap,cur,e,Nat.le_trans d h1,h2⟩
theorem ZD (nF:Nat) (h1:1<=nF) (w:World) (A:Option Addr) (b off cap:Nat) (ps:List (Int×Int)) (y:Nat->ByteArray) (t:Nat->Nat) (z:0 < ps.length->A=some ⟨b,off,none⟩) (s:0 < ps.length->b < w.heap.size) (h:ps.length<=50000)
  (i: ∀p∈ps,(Lit.int .i64 p.1).wf=true/\(Lit.int .i64 p.2).wf=true) (q:DZ w b off ps y t) (c:Int) (r:(Lit.int .i64 c).wf=true)
  (g: ∀(W:World) (B:Nat) (v:Value) (zs:List Int) (x:Int),W.ownsRow B 3 1 v zs.length (zs.map encZ)->zs.length<=100000->Calls Tryz.prog 148 #[v,.int .i64 x] W λe k=>e= .returned (.bool (zs.contains x))/\Below W.heap.size W k):
  CallsIn Fence.wide nF Tryz.prog 39 #[.slice A ps.length cap,.int .i64 c] w λe k=> ∃j d,e= .returned (.tuple #[j,.bool d])/\Below w.heap.size w k/\QS k w.heap.size (wX (ph ps) (dE ps).length c) j d:=by
 have C: ∀f,Fence.wide.fn f:= λ_=>trivial
 have u:Fence.wide.depth.isSome=false:=rfl
 have hf:Tryz.prog.funcs[39]? =some Tryz.f39:=by kernel_rfl
 have hn:Tryz.f39.ntmps=12:=by kernel_rfl
 have hp:= λn=>DT n w A b off cap ps y t z s (by omega) i q
 refine callsIn_of_wp hf rfl trivial ?_ rfl
 simp only [hn,List.size_toArray,List.length_cons,List.length_nil,Nat.reduceAdd,Nat.reduceSub,Array.replicate_succ,Array.replicate_zero,List.push_toArray,List.append_toArray,List.nil_append,List.cons_append]
 gi_wp2_with (first
  | (gi_at_call 80;refine (hp _).mono ?_;rintro e w2 ⟨rfl,m,a⟩
     have D:=callsIn_wide.1 (ac4 1 (Nat.le_refl _) w2 w.heap.size (dE ps).length (ph ps) m (Nat.le_trans (FN ps) h) (SB i) c r g))
  | (gi_at_call 79;refine (callsIn_wide.2 D).mono ?_;rintro e w3 ⟨j,d,rfl,l,o⟩)
  | gi_in)
 have hr:Tryz.f39.results= #[.tmp 4,.tmp 5]:=by kernel_rfl
 refine bodyPost_ret (v:= .tuple #[j,.bool d]) (by simp [results,hr,go_sem]) rfl ?_
 exact ⟨j,d,rfl,a.trans (l.mono a.size),o.mono a.size⟩
end Go.AM
