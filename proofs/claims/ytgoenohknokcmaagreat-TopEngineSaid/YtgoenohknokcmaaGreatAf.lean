/- A row of structs that is sorted in place: worlds behind draws, new blocks and exchanges, however often the tape was asked. -/
import Derived.Test.YtgoenohknokcmaaGreatAe
import Derived.Lib.QuietBelowIn
import Derived.Shelf.SlSortCmp.KitK
import Derived.Sort.LotA
import Derived.Sort.WalkA
import Derived.Maps.AppendAt
import Derived.Shelf.SlIterI.Collect
set_option linter.unusedVariables false
set_option linter.unusedSimpArgs false
namespace Go.AM
open Go.Proofs Go.Shelf Go.RowKit Go.Lib Go.Sort
variable {P:Program} {α:Type} [Inhabited α] {enc:α->List Value} {k:Nat} {w0 W:World} {blk off:Nat} {dk d0:Array α}
end Go.AM
namespace Go.AM
open Go.Sort
variable {α:Type} [Inhabited α] {lt:α->α->Bool}
end Go.AM
namespace Go.AM
open Go.Sort
open Go.Proofs (insInner_go insInner_stop insOuter_go insOuter_stop)
variable {α:Type} [Inhabited α] {lt:α->α->Bool}
end Go.AM
namespace Go.AM
open Go.RowKit Go.Sort Go.Proofs Go.Shelf Go.Lib
end Go.AM
namespace Go.AM
open Go.RowKit
theorem zC {F:Fence} {n:Nat} {P:Program} (w:World) {ops:Array Oper} {rest:List Oper} {o:Oper} {a:Act} {Q:Exit->Act->World->Prop}
  (hg:o.guard=none) (s x:Operand) (t:TypeId) (hop:o.op=Op.call { callee:=Callee.builtin Builtin.append,args:= #[s,x],argTypes:= #[t,t] })
  (base:Nat) (e:TypeId) (i:TypeInfo) (z:Value) (size bytes:Nat) (h1:P.underlying t=some (.slice e)) (h2:P.info? e=some i) (h3:i.zero=some z) (h4:i.size=size) (h5:i.bytes=bytes) (h6:z.cells.size=size) (h7:0 < size)
  (v:Value) (k:Nat) (xs:List Value) (hs:a.eval s=v) (hown:w.ownsRow base e size v k xs) (ad:Addr) (m c:Nat) (news:List Value) (hx:a.eval x= .slice (some ad) m c) (hn:news.length=m*size)
  (hc: ∀j u,news[j]? =some u->w.cell? (ad.add j)=some u) (h1c: ∀u∈news,u.oneCell'=true) (b1:k+m<=maxLen) (b2:(k+m)*bytes<=140737488355328) (b3:base<=w.heap.size)
  (hK: ∀v' w',w'.ownsRow base e size v' (k+m) (xs++news)->w.grownBy w' v.ownBlock->(v'.ownBlock=v.ownBlock\/v'.ownBlock=some w.heap.size)->wpListIn F n P ops Q rest (a.put o.dst v') w'):
  wpListIn F n P ops Q (o::rest) a w:=by
 refine wpListIn_plain hg fun K hK'=> ?_
 obtain ⟨v',w',hrun,r1,r2,r3,r4⟩:=run_append_own_at (P:=P) w base t o.type e i z size bytes h1 h2 h3 h4 h5 h6 h7 v k xs hown ad m c news hn hc h1c b1 b2 b3
 unfold Oper.wpIn
 refine ⟨?_,?_⟩
 ·simp [Oper.about,hop,resolve,Target.leads,Sem.run_pure]
 ·rw [Oper.semAt_plain F _ _ (by rw [hop];intro c hc';cases hc')]
  simp [execOp,hop,resolve,invoke,builtin,hs,hx,hrun,Result.andThen]
  exact hK' _ _ (hK v' w' r1 r2 r4)
def Kp3 (b c bm:Nat) (A B:World):Prop:=B.heap[b]? =A.heap[b]? /\B.heap[c]? =A.heap[c]? /\B.heap[bm]? =A.heap[bm]?
theorem Kp3.trans {b c bm:Nat} {A B C:World} (h:Kp3 b c bm A B) (k:Kp3 b c bm B C):Kp3 b c bm A C:=⟨k.1.trans h.1,k.2.1.trans h.2.1,k.2.2.trans h.2.2⟩
theorem Nh {W:World} {base e size n r:Nat} {v:Value} {xs:List Value} {o:Obj} (h:W.ownsRow base e size v n xs) (hr:W.heap[r]? =some o) (ho:o.isCells=false):v.ownBlock≠some r:=by
 rcases h.2 with ⟨rfl,_⟩ | ⟨g,cap,cur,rfl,h1,h2,_⟩
 ·simp [Value.ownBlock]
 ·intro e
  simp only [Value.ownBlock,Option.some.injEq] at e
  subst e
  rw [h2] at hr;cases hr
  cases ho
theorem qT {A B:World} (h:Below A.heap.size A B):KeepsOthers A B:=⟨h.size,fun k o hk _=>(h.block k (Array.getElem?_eq_some_iff.1 hk).1).trans hk⟩
theorem Lb {A B:World} {base e size n:Nat} {v:Value} {xs:List Value} (h:A.ownsRow base e size v n xs) (hB:Below A.heap.size A B):B.ownsRow base e size v n xs:=by
 refine ⟨h.1,?_⟩
 rcases h.2 with h0 | ⟨g,cap,cur,rfl,h1,h2,h3⟩
 ·exact .inl h0
 ·exact .inr ⟨g,cap,cur,rfl,h1,(hB.block g (Array.getElem?_eq_some_iff.1 h2).1).trans h2,h3⟩
def LF (W:World) (B:Nat) (o:Option (List Int)) (sv:Value) (b:Bool):Prop:=
 match o with
 | none=>sv= .slice none 0 0/\b=false
 | some l=>b=true/\W.ownsRow B 3 1 sv l.length (l.map (Value.int .i64))
end Go.AM
namespace Go.AM
open Go.RowKit Go.Proofs
def adS (P:Program) (con:FuncId):Prop:= ∀(W:World) (B:Nat) (v:Value) (zs:List Int) (x:Int),W.ownsRow B 3 1 v zs.length (zs.map (Value.int .i64))->zs.length<=100000->Calls P con #[v,.int .i64 x] W fun e W'=>e= .returned (.bool (zs.contains x))/\Below W.heap.size W W'
theorem Tb {P:Program} {g:FuncId} {sc:Bool} {K:List (List IV)->Option (List IV)} (hK:ah P g ⟨.pure,sc,[1],0,K⟩) (h: ∀(zs:List Int) (x:Int),zs.length<=100000->K [[Gq zs],[.int .i64 x]]=some [.bool (zs.contains x)]):adS P g:=by
 intro W B v zs x hrow hl
 have hr:RV W (fun b=>B<=b/\b < W.heap.size) (Gq zs) v:=vS hrow fun b h1 h2=>⟨h1,h2⟩
 refine (hK.1 W (fun b=>B<=b/\b < W.heap.size) W (fun b=>B<=b/\b < W.heap.size) [[Gq zs],[.int .i64 x]] [v,.int .i64 x] _ (Keeps.refl _ _) (fun b hb=>hb.2) ?_ (h zs x hl)).mono ?_
 ·refine ⟨rfl,fun i c u hc hu=> ?_⟩
  match i,hc,hu with
  | 0,hc,hu=>cases hc;cases hu;exact .inl ⟨_,rfl,hr⟩
  | 1,hc,hu=>cases hc;cases hu;exact .inl ⟨_,rfl,.int _ _⟩
  | (k+2),hc,_=>simp at hc
 ·rintro e W' ⟨u,rfl,hB,(⟨_,hv⟩ | ⟨h2,_⟩)⟩
  ·have:RV W' (sj W (fun b=>B<=b/\b < W.heap.size) W') (.bool (zs.contains x)) u:=hv
   cases this
   exact ⟨rfl,hB⟩
  ·simp at h2
theorem Rf {P:Program} {g:FuncId} (H: ∀(w:World) (A:Option Addr) (b off cap:Nat) (ps:List (Int×Int)) (ss:Nat->ByteArray) (fs:Nat->Nat),(0 < ps.length->A=some ⟨b,off,none⟩)->(0 < ps.length->b < w.heap.size)->ps.length<=50000->
   (∀p∈ps,(Lit.int .i64 p.1).wf=true/\(Lit.int .i64 p.2).wf=true)->zM w b off ps ss fs-> ∀c:Int,(Lit.int .i64 c).wf=true->
   Calls P g #[.slice A ps.length cap,.int .i64 c] w fun e W'=> ∃sv bb,e= .returned (.tuple #[sv,.bool bb])/\Below w.heap.size w W'/\LF W' w.heap.size (rS (lD ps) (cA ps).length c) sv bb):
  ah P g ⟨.pure,false,[1,1],0,fun l=>match l with | [[x0],[x1]]=>Xe x0 x1 | _=>none⟩:=by
 refine ⟨fun W OK w ok ags args r hk hok hargs hr=> ?_,fun h=>(by cases h)⟩
 dsimp only at hr ⊢
 split at hr
 ·rename_i x0 x1
  obtain ⟨v0,v1,rfl,r0,r1⟩:=Q0 hargs
  unfold Xe at hr
  split at hr
  ·rename_i es c
   split at hr
   ·rename_i hmax
    obtain ⟨ps,h1,rfl⟩:=Option.map_eq_some_iff.1 hr
    obtain ⟨A,cap,b,off,ss,fs,rfl,hA,hb,hwf,hat⟩:=Ue hok r0 h1
    cases r1
    refine (H w A b off cap ps ss fs hA hb (by rw [Hf h1];exact hmax.1) hwf hat c hmax.2).mono ?_
    rintro e W' ⟨sv,bb,rfl,hB,hPR⟩
    refine ⟨_,rfl,hB,?_⟩
    cases hq:rS (lD ps) (cA ps).length c with
    | none=>
      rw [hq] at hPR
      obtain ⟨rfl,rfl⟩:=hPR
      exact ⟨_,rfl,.inl ⟨rfl,vS (zs:=[]) (World.ownsRow_nil W' w.heap.size 3 1) fun b h1 h2=> .inr ⟨h1,h2⟩⟩,.inl ⟨rfl,.bool _⟩,trivial⟩
    | some l=>
      rw [hq] at hPR
      obtain ⟨rfl,hrow⟩:=hPR
      exact ⟨_,rfl,.inl ⟨rfl,vS hrow fun b h1 h2=> .inr ⟨h1,h2⟩⟩,.inl ⟨rfl,.bool _⟩,trivial⟩
   ·cases hr
  ·cases hr
 ·cases hr
end Go.AM
