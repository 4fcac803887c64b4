/- What the functions that are walked by hand hand back, on pure values. -/
import Derived.Shelf.Spec.SlicesInsert
import Derived.Test.YtgoenohknokcmaaGreatAd
import Derived.RangeFuncBox
import Derived.Maps.OwnIn
import Derived.Shelf.SlIterI.Collect
open Array renaming getElem?_eq_some_iff->bd
open Go renaming World->br,Program->bO,Value->b5,TypeId->cd,FuncId->dq,KeepsFrom->ds,Calls->et
open Go.World renaming putObj_heap_other->bx,putObj_heap_same->b0,alloc_heap_new->b4,size_alloc->dd
open List renaming getElem?_eq_getElem->bA,getD_eq_getElem?_getD->bB,getElem?_eq_some_iff->bC,mem_iff_getElem?->b1,mem_iff_getElem->b3,mem_cons_self->ca,mem_append->ck,pairwise_cons->cl,mem_singleton->cv,pairwise_iff_getElem->cO,take_append_drop->c1,contains_iff_mem->c2,pairwise_append->c3,mem_cons->c4,getElem_drop->c6,cons_append->c7,length_drop->c9
open Go.Lit renaming int->bM
open Nat renaming le_refl->bR,eq_zero_or_pos->c5
open Option renaming bind_eq_some_iff->cb,map_eq_some_iff->cc,getD_some->c8
open Go.IntKind renaming u64->c0,i64->ek
set_option linter.unusedVariables false
namespace Go.AM
open Go.RowKit
def ph (ps:List (Int×Int)) (k:Int):Option Int:=(ps.find? λp=>p.1==k).map (·.2)
def dE (ps:List (Int×Int)):List Int:=ps.foldl (λl p=>if l.contains p.1 then l else l++[p.1]) []
def upto (f:Int->Option Int):Nat->Int->List Int
 | 0,_=>[]
 | n+1,x=>match f x with | none=>[] | some y=>y::upto f n y
def Kj:List IV->Option (Int×Int)
 | [.int .i64 c,.int .i64 p,.str _,.flt .f64 _]=>if (bM .i64 c).wf=true/\(bM .i64 p).wf=true then some (c,p) else none
 | _=>none
def Ns (x a b:IV):Option (List IV):=
 match x,a,b with
 | .lst es,.int .i64 a,.int .i64 b=>if es.length<=2 ^ 40/\(bM .i64 b).wf=true then (es.mapM Kj).map λps=>[.bool ((upto (ph ps) (dE ps).length b).contains a)] else none
 | _,_,_=>none
structure StepV where
 (i0 i1 i2 i3:Int) (s4:ByteArray) (f5:Nat) (b6 b7:Bool) (i8 i9:Int) (s10:ByteArray) (f11:Nat)
 deriving Inhabited
def GF (K:List Int) (k:Int):List Int:=if K.contains k then K else K++[k]
structure MvAt where
 (c r par ch:Int) (nm:ByteArray) (rk:Nat)
def Ur (l:List Int) (n:Int):Nat:=(l.findIdx? λx=> !decide (x < n)).getD l.length
def ace (l:List Int) (n:Int):List Int:=if l[Ur l n]? =some n then l else l.take (Ur l n)++[n]++l.drop (Ur l n)
def KJ (l:List Int):IV:= .lst (l.map λz=>[.int .i64 z])
def zV (ob:Nat->Bool):List (Int×Int)->Nat->Bool
 | [],_=>true
 | [_],i=>ob i
 | p::q::l,i=>ob i&&(decide (p.1 < q.1)&&zV ob (q::l) (i+1))
def zF (ob:Nat->Bool) (ps:List (Int×Int)):Bool:=
 decide (ps.length<=2000)&&(zV ob ps 0&&(dE ps).all λc=> !(upto (ph ps) (dE ps).length c).contains c)
def XE (O:List (List IV)->Option (List IV)) (e:List IV):Option Bool:=match O [e] with | some [.bool b]=>some b | _=>none
def Y3 (O:List (List IV)->Option (List IV)) (x:IV):Option (List IV):=
 match x with
 | .lst es=>if es.length<=2 ^ 40 then (es.mapM Kj).bind λps=>(es.mapM (XE O)).map λbs=>[.bool (zF (λi=>bs.getD i false) ps)] else none
 | _=>none
end Go.AM
namespace Go.AM
def we:List Int->List Int->Option (List Int)
 | out,[]=>some out
 | out,x::l=>if out.contains x then none else we (out++[x]) l
def wX (f:Int->Option Int) (N:Nat) (c:Int):Option (List Int):=
 match we [c] (upto f N c) with
 | none=>none
 | some out=>if out.getLast?=some 0/\(f 0).isNone=true then some out else none
theorem KO: ∀(l m out:List Int),we out l=none->we out (l++m)=none
 | [],m,out,h=>by cases h
 | x::l,m,out,h=>by
   unfold we at h
   simp only [c7]
   unfold we
   split
   ·rfl
   ·rename_i hc
    rw [if_neg hc] at h
    exact KO l m _ h
theorem DD: ∀(l out:List Int) (x:Int),we out (l++[x])=(we out l).bind λr=>if r.contains x then none else some (r++[x])
 | [],out,x=>by
   simp only [List.nil_append]
   unfold we we
   rfl
 | y::l,out,x=>by
   simp only [c7]
   unfold we
   split
   ·rfl
   ·exact DD l _ x
def aao (x c:IV):Option (List IV):=
 match x,c with
 | .lst es,.int .i64 c=>if es.length<=50000/\(bM .i64 c).wf=true then (es.mapM Kj).map λps=>match wX (ph ps) (dE ps).length c with | some l=>[KJ l,.bool true] | none=>[.lst [],.bool false] else none
 | _,_=>none
def Ky (u:Int) (b:UInt8):Int:=c0.wrap (BitVec.ofInt c0.bits (c0.wrap (u*256))|||BitVec.ofInt c0.bits (c0.wrap (b.toNat:Int))).toNat
def Je:List UInt8->Int
 | []=>0
 | b::l=>Ky (Je l) b
def afk (T:IV->IV->IV->Option (List IV)) (x y:IV):Option (List IV):=
 (T x y (.int .i64 8)).bind λr=>match r with
   | [a,b,.str s]=>if s.size<=8 then some [a,b,.int .u64 (Je s.data.toList)] else none
   | _=>none
end Go.AM
set_option linter.unusedSimpArgs false
namespace Go.AM
abbrev xr (l:List Int):Prop:=l.Pairwise (· < ·)
theorem Qf: ∀{a b:List Int},xr a->xr b->(∀x,x∈a↔x∈b)->a=b
 | [],[],_,_,_=>rfl
 | [],y::b,_,_,h=>absurd ((h y).2 ca) (by simp)
 | x::a,[],_,_,h=>absurd ((h x).1 ca) (by simp)
 | x::a,y::b,g,hb,h=>by
   have c:=cl.1 g
   have d:=cl.1 hb
   have f:x=y:=by
    rcases c4.1 ((h x).1 ca) with e | hx
    ·exact e
    ·rcases c4.1 ((h y).2 ca) with e | i
     ·exact e.symm
     ·have:=d.1 x hx;have:=c.1 y i;omega
   subst f
   congr 1
   refine Qf c.2 d.2 λz=> ?_
   have hz:=h z
   simp only [c4] at hz
   constructor
   ·intro hm
    rcases hz.1 (.inr hm) with e | h2
    ·have:=c.1 z hm;omega
    ·exact h2
   ·intro hm
    rcases hz.2 (.inr hm) with e | h2
    ·have:=d.1 z hm;omega
    ·exact h2
theorem abP {l:List Int} (hl:xr l) (n:Int):Ur l n<=l.length/\(∀x∈l.take (Ur l n),x < n)/\(∀x∈l.drop (Ur l n),n<=x):=by
 unfold Ur
 cases h:l.findIdx? λx=> !decide (x < n) with
 | none=>
   rw [List.findIdx?_eq_none_iff] at h
   refine ⟨by simp,λx hx=> ?_,λx hx=>by simp at hx⟩
   have:=h x (List.mem_of_mem_take hx)
   simpa using this
 | some i=>
   obtain ⟨hi,hp,hn⟩:=List.findIdx?_eq_some_iff_getElem.1 h
   have a:n<=l[i]:=by simpa using hp
   simp only [c8]
   refine ⟨by omega,λx hx=> ?_,λx hx=> ?_⟩
   ·obtain ⟨j,hj,rfl⟩:=b3.1 hx
    simp only [List.length_take] at hj
    have:=hn j (by omega)
    simpa using this
   ·obtain ⟨j,hj,rfl⟩:=b3.1 hx
    simp only [c9] at hj
    rw [c6]
    rcases c5 j with h0 | h0
    ·subst h0;simpa using a
    ·have:=cO.1 hl i (i+j) (by omega) (by omega) (by omega)
     omega
theorem QQ {l:List Int} (hl:xr l) (n:Int):xr (ace l n)/\ ∀x,x∈ace l n↔x∈l\/x=n:=by
 obtain ⟨h1,h2,e⟩:=abP hl n
 unfold ace
 split
 ·rename_i hs
  refine ⟨hl,λx=>⟨.inl,?_⟩⟩
  rintro (h | rfl)
  ·exact h
  ·exact List.mem_of_getElem? hs
 ·rename_i hs
  have d: ∀x∈l.drop (Ur l n),n < x:=by
   intro x hx
   have g:=e x hx
   rcases Int.lt_or_eq_of_le g with h | h
   ·exact h
   ·exfalso
    subst h
    obtain ⟨j,hj,he⟩:=b3.1 hx
    simp only [c9] at hj
    rw [c6] at he
    rcases c5 j with h0 | h0
    ·subst h0
     apply hs
     rw [bA (by omega)]
     simpa using he
    ·have i:=cO.1 hl (Ur l n) (Ur l n+j) (by omega) (by omega) (by omega)
     have k:=e l[Ur l n] (by rw [b3];exact ⟨0,by simp;omega,by simp⟩)
     omega
  have c:l=l.take (Ur l n)++l.drop (Ur l n):=(c1 _ _).symm
  constructor
  ·have hp:=hl
   rw [c] at hp
   have hp:=c3.1 hp
   rw [List.append_assoc]
   refine c3.2 ⟨hp.1,?_,λa f b hb=> ?_⟩
   ·simp only [List.singleton_append,cl]
    exact ⟨d,hp.2.1⟩
   ·rcases ck.1 hb with hb | hb
    ·simp at hb;subst hb;exact h2 a f
    ·exact hp.2.2 a f b hb
  ·intro x
   have hm:x∈l↔x∈l.take (Ur l n)\/x∈l.drop (Ur l n):=by rw [<-ck,c1]
   rw [hm]
   simp only [ck,cv]
   constructor
   ·rintro ((h | h) | h)
    ·exact .inl (.inl h)
    ·exact .inr h
    ·exact .inl (.inr h)
   ·rintro ((h | h) | h)
    ·exact .inl (.inl h)
    ·exact .inr h
    ·exact .inl (.inr h)
end Go.AM
namespace Go.AM
open Go.RowKit
def Yg:b5->Int | .int _ n=>n | _=>0
def agz {α:Type} (F:Fence) (n:Nat) (P:bO) (g:Nat) (lb:Array b5) (encs:α->Array b5) (R:List α->α->Prop) (Kp Chg:br->br->Prop) (S Sp:List α->Prop) (w:br):Prop:=
 ∀(l:Nat) (J b:List α->br->Prop) (W:br),Below w.heap.size w W->(∀s A B,J s A->Chg A B->J s B)->(∀s A B,b s A->Chg A B->b s B)->
  (∀pre x c,R pre x->J pre c->YieldAt F (n - 1) P l (encs x) c λe a=>(e= .returned (.bool true)/\J (pre++[x]) a/\Kp c a)\/(e= .returned (.bool false)/\b (pre++[x]) a))->
  J [] W->CallsIn F n P g (#[.func (.yield l) #[] #[]]++lb) W λe a=>(∃v,e= .returned v)/\((∃xs,S xs/\J xs a)\/(∃pre,Sp pre/\b pre a))
def Hk {β:Type} (B:Nat) (I:β->br->Prop):Prop:=
 ∀s W a row,I s W->W.grownBy a row->(∀r,row=some r->(r=B\/r=B+1)/\ ∃o:Obj,W.heap[r]? =some o/\o.isCells=false)->I s a
theorem OwnFrom.two {β:Type} {B:Nat} {I:β->br->Prop} (h:OwnFrom B I):Hk B I:= λs W a row hs b hr=>h s W a row hs b λr e=>⟨by have:=(hr r e).1;omega,(hr r e).2⟩
theorem Hk.putObj {β:Type} {B:Nat} {I:β->br->Prop} (h:Hk B I) {s:β} {W:br} {l:Nat} {o:Obj} (o':Obj) (hs:I s W) (a:l=B\/l=B+1) (hl:W.heap[l]? =some o) (b:o.isCells=false):I s (W.putObj l o'):=
 h s W _ (some l) hs (grownBy_putObj' W l o') (λr e=>by cases e;exact ⟨a,o,hl,b⟩)
theorem Hk.alloc {β:Type} {B:Nat} {I:β->br->Prop} (h:Hk B I) {s:β} {W:br} (o:Obj) (hs:I s W):I s (W.alloc o):=
 h s W _ none hs (World.grownBy_alloc W o none) (λr e=>by cases e)
section
variable {F:Fence} {n:Nat} {P:bO}
theorem Fw {α:Type} {g:Operand} {ps:Array Tmp} {assign body:Code} {Q:Exit->Act->br->Prop} {a:Act} {w:br}
  (a2:F.round=none) (h1:1<=n) {gf:Nat} {lb:Array b5} (z:a.eval g= .func (.func gf) #[] lb) (Y:F.fn gf) (eg: ∀args w,(callFunc gf args).run P w= .ok (.enter gf args) w)
  {encs:α->Array b5} {Kp Chg:br->br->Prop} {S Sp:List α->Prop} (V:agz F (n - 1) P gf lb encs (λ_ _=>True) Kp Chg S Sp w) (X: ∀(A B:br) (k:Nat) (o:Obj),Chg A B->w.heap.size<=k->A.heap[k]? =some o->o.isCells=false->B.heap[k]? =some o)
  (R: ∀{A B C:br},Kp A B->Kp B C->Kp A C) (O: ∀(W:br) (l:Nat) (o o':Obj),w.heap.size<=l->W.heap[l]? =some o->o.isCells=false->o.isWalk=false->Kp W (W.putObj l o')) (a1: ∀x,(encs x).size=ps.size)
  (I:List α->br->Prop) (L:Code->List α->br->Prop) (M:Hk w.heap.size I) (y: ∀c,Hk w.heap.size (L c)) (ab: ∀s A B,Chg A B->I s A->I s B) (N: ∀c s A B,Chg A B->L c s A->L c s B) (h0:I [] w) (E:α->Act)
  (r: ∀(l:Nat) (x:α) (W:br) (K:Act->br->Prop),K (E x) W->
    assign.wpIn (F.inRound l) (n - 1 - 1) P (Exit.then K (λ_ _ _=>False)) { tmps:=(ps.zip (encs x)).foldl (λt (p,v)=>t.setIfInBounds p v) a.tmps,defers:=[] } W)
  (G: ∀(l:Nat) (pre:List α) (x:α) (W:br),I pre W->body.wpIn (F.inRound l) (n - 1 - 1) P (ownPostG w.heap.size Kp I L (pre++[x]) W) (E x) W)
  (H: ∀(D:Nat) (xs:List α) (W:br),w.heap.size<=D->S xs->I xs W->W.heap[D]? =some (.deferred (some []))->Q .normal { a with defers:={ target:= .collected D,args:= #[] }::a.defers } W)
  (J: ∀(D:Nat) (c:Code) (pre:List α) (W:br),w.heap.size<=D->Sp pre->L c pre W->W.heap[D]? =some (.deferred (some []))->c.wpIn F n P Q { a with defers:={ target:= .collected D,args:= #[] }::a.defers } W):
  (Code.rangeFunc g ps assign body).wpIn F n P Q a w:=by
 refine wpIn_rangeFunc ?_
 intro fn ap
 rw [a2]
 obtain ⟨rec,b⟩: ∃rec:LoopState->Option Code->Loop,rec= λst pe=>{ state:=st,pending:=pe,fn,tmps:=a.tmps,params:=ps,assign,body,defers:=w.heap.size }:=⟨_,rfl⟩
 obtain ⟨u,q⟩: ∃u,(w.alloc (.deferred (some []))).alloc (.loop (rec .ready none))=u:=⟨_,rfl⟩
 have al:u.heap[w.heap.size+1]? =some (.loop (rec .ready none)):=by
  rw [<-q];have:=b4 (w.alloc (.deferred (some []))) (.loop (rec .ready none));rwa [dd] at this
 have ac:u.heap[w.heap.size]? =some (.deferred (some [])):=by
  rw [<-q];exact (Below.heap_alloc _ _ _ (by simp)).trans (b4 w _)
 have Z:I [] u:=by rw [<-q];exact M.alloc _ (M.alloc _ h0)
 have ao:Below w.heap.size w u:=by
  rw [<-q];exact ((Below.refl _ w).alloc (bR _) _).alloc (by simp) _
 refine ⟨w.heap.size+1,[{ target:= .collected w.heap.size,args:= #[] }],u,{ target:= .fn (.func gf) lb,args:= #[.func (.yield (w.heap.size+1)) #[] #[]] },u,gf,
  #[.func (.yield (w.heap.size+1)) #[] #[]]++lb,u,?_,?_,?_,?_,λ_=>h1,?_⟩
 ·rw [<-q,b];exact run_enterLoop_outer _ _ _ _ _
 ·simp only [resolve,z]
  simp [go_sem]
 ·intro f' T;simp [Target.leads] at T;subst T;exact Y
 ·simp [invoke,go_sem,eg]
 ·
  refine (V (w.heap.size+1)
   (λpre W=>I pre W/\W.heap[w.heap.size+1]? =some (.loop (rec .ready none))/\W.heap[w.heap.size]? =some (.deferred (some [])))
   (λpre W=> ∃c,L c pre W/\W.heap[w.heap.size+1]? =some (.loop (rec .done (some c)))/\W.heap[w.heap.size]? =some (.deferred (some [])))
   u ao
   (λs A B hs z=>⟨ab s A B z hs.1,X A B _ _ z (by omega) hs.2.1 rfl,X A B _ _ z (bR _) hs.2.2 rfl⟩)
   (λs A B hs z=>by
     obtain ⟨c,hc,hl,hk⟩:=hs
     exact ⟨c,N c s A B z hc,X A B _ _ z (by omega) hl rfl,X A B _ _ z (bR _) hk rfl⟩)
   ?_ ⟨Z,al,ac⟩).mono ?_
  ·
   rintro pre x W - ⟨hi,hl,hk⟩
   have a0:w.heap.size+1 < W.heap.size:=(bd.1 hl).1
   have hy:=run_yield (P:=P) (args:=encs x) hl (by rw [b];exact a1 x)
   rw [b] at hy
   refine ⟨fn,_,assign,body,hy,roundIn_of_wpIn ap (r _ x W _ ⟨_,run_beginRound hl (by rw [b]),?_⟩)⟩
   have aT:(W.putObj (w.heap.size+1) (.loop { rec .ready none with state:= .busy })).heap[w.heap.size+1]? =some (.loop { rec .ready none with state:= .busy }):=b0 a0
   have aB:(W.putObj (w.heap.size+1) (.loop { rec .ready none with state:= .busy })).heap[w.heap.size]? =some (.deferred (some [])):=(bx (by omega)).trans hk
   have a4:Kp W (W.putObj (w.heap.size+1) (.loop { rec .ready none with state:= .busy })):=O _ _ _ _ (by omega) hl rfl rfl
   refine wpIn_mono (G _ pre x _ (M.putObj _ hi (.inr rfl) hl rfl)) ?_
   have fin: ∀(jump:Option Code) (m:br),ds w.heap.size (W.putObj (w.heap.size+1) (.loop { rec .ready none with state:= .busy })) m->
     (Instr.endRound (w.heap.size+1) jump).run P m= .ok (.bool jump.isNone) (m.putObj (w.heap.size+1) (.loop (rec (if jump.isNone then .ready else .done) jump)))/\
     m.heap[w.heap.size+1]? =some (.loop { rec .ready none with state:= .busy })/\
     (m.putObj (w.heap.size+1) (.loop (rec (if jump.isNone then .ready else .done) jump))).heap[w.heap.size+1]? =some (.loop (rec (if jump.isNone then .ready else .done) jump))/\
     (m.putObj (w.heap.size+1) (.loop (rec (if jump.isNone then .ready else .done) jump))).heap[w.heap.size]? =some (.deferred (some [])):= λjump m f=>by
    have d:=f.same _ _ (by omega) aT rfl
    have:=run_endRound (P:=P) jump d
    rw [b] at this ⊢
    exact ⟨this,by rw [b] at d;exact d,b0 (bd.1 d).1,(bx (by omega)).trans (f.same _ _ (bR _) aB rfl)⟩
   rintro e a3 m hp
   cases e with
   | normal=>
     obtain ⟨f,U,h⟩:=hp
     obtain ⟨hr,d,j,i⟩:=fin none m f
     exact ⟨_,_,hr,.inl ⟨rfl,⟨M.putObj _ h (.inr rfl) d rfl,j,i⟩,R (R a4 U) (O _ _ _ _ (by omega) d rfl rfl)⟩⟩
   | ret=>
     obtain ⟨f,h⟩:=hp
     obtain ⟨hr,d,j,i⟩:=fin (some .ret) m f
     exact ⟨_,_,hr,.inr ⟨rfl,.ret,(y _).putObj _ h (.inr rfl) d rfl,j,i⟩⟩
   | exit id=>
     obtain ⟨f,h⟩:=hp
     obtain ⟨hr,d,j,i⟩:=fin (some (.exit id)) m f
     exact ⟨_,_,hr,.inr ⟨rfl,.exit id,(y _).putObj _ h (.inr rfl) d rfl,j,i⟩⟩
   | goto t=>
     obtain ⟨f,h⟩:=hp
     obtain ⟨hr,d,j,i⟩:=fin (some (.goto t)) m f
     exact ⟨_,_,hr,.inr ⟨rfl,.goto t,(y _).putObj _ h (.inr rfl) d rfl,j,i⟩⟩
   | panic ch=>exact hp.elim
   | outgrown=>exact hp.elim
  ·
   rintro e W2 ⟨⟨v,rfl⟩,(⟨xs,hS,hi,hl,hk⟩ | ⟨pre,am,c,hi,hl,hk⟩)⟩
   ·exact ⟨none,_,by have:=run_endLoop (P:=P) hl (by rw [b];simp);rw [b] at this;exact this,H _ xs _ (bR _) hS (M.putObj _ hi (.inr rfl) hl rfl) ((bx (by omega)).trans hk)⟩
   ·exact ⟨some c,_,by have:=run_endLoop (P:=P) hl (by rw [b];simp);rw [b] at this;exact this,J _ c pre _ (bR _) am ((y c).putObj _ hi (.inr rfl) hl rfl) ((bx (by omega)).trans hk)⟩
theorem yp {α:Type} {g:Operand} {ps:Array Tmp} {assign body:Code} {Q:Exit->Act->br->Prop} {a:Act} {w:br}
  (bi:F.round=none) (h1:1<=n) {gf:Nat} {lb:Array b5} (z:a.eval g= .func (.func gf) #[] lb) (ap:F.fn gf) (eg: ∀args w,(callFunc gf args).run P w= .ok (.enter gf args) w)
  {encs:α->Array b5} {R:List α->α->Prop} {Kp Chg:br->br->Prop} {S Sp:List α->Prop} (Z:agz F (n - 1) P gf lb encs R Kp Chg S Sp w) (hC: ∀(A B:br) (k:Nat) (o:Obj),Chg A B->w.heap.size<=k->A.heap[k]? =some o->o.isCells=false->B.heap[k]? =some o)
  (G: ∀{A B C:br},Kp A B->Kp B C->Kp A C) (O: ∀(W:br) (l:Nat) (o o':Obj),w.heap.size<=l->W.heap[l]? =some o->o.isCells=false->o.isWalk=false->Kp W (W.putObj l o')) (bf: ∀x,(encs x).size=ps.size)
  (I:List α->br->Prop) (M:Code->List α->br->Prop) (hI:Hk w.heap.size I) (y: ∀c,Hk w.heap.size (M c)) (aT: ∀s A B,Chg A B->I s A->I s B) (N: ∀c s A B,Chg A B->M c s A->M c s B) (h0:I [] w) (Ax:List α->α->Act->br->Prop) (ao: ∀x a',Hk w.heap.size (λpre W=>Ax pre x a' W))
  (r: ∀(l:Nat) (pre:List α) (x:α) (W:br) (K:Act->br->Prop),w.heap.size+2<=W.heap.size->R pre x->I pre W->(∀a' W',Ax pre x a' W'->ds w.heap.size W W'->Kp W W'->K a' W')->
    assign.wpIn (F.inRound l) (n - 1 - 1) P (Exit.then K (λ_ _ _=>False)) { tmps:=(ps.zip (encs x)).foldl (λt (p,v)=>t.setIfInBounds p v) a.tmps,defers:=[] } W)
  (H: ∀(l:Nat) (pre:List α) (x:α) (a':Act) (W:br),R pre x->Ax pre x a' W->body.wpIn (F.inRound l) (n - 1 - 1) P (ownPostG w.heap.size Kp I M (pre++[x]) W) a' W)
  (J: ∀(D:Nat) (xs:List α) (W:br),D=w.heap.size->S xs->I xs W->W.heap[D]? =some (.deferred (some []))->Q .normal { a with defers:={ target:= .collected D,args:= #[] }::a.defers } W)
  (L: ∀(D:Nat) (c:Code) (pre:List α) (W:br),D=w.heap.size->Sp pre->M c pre W->W.heap[D]? =some (.deferred (some []))->c.wpIn F n P Q { a with defers:={ target:= .collected D,args:= #[] }::a.defers } W):
  (Code.rangeFunc g ps assign body).wpIn F n P Q a w:=by
 refine wpIn_rangeFunc ?_
 intro fn a6
 rw [bi]
 obtain ⟨rec,b⟩: ∃rec:LoopState->Option Code->Loop,rec= λst pe=>{ state:=st,pending:=pe,fn,tmps:=a.tmps,params:=ps,assign,body,defers:=w.heap.size }:=⟨_,rfl⟩
 obtain ⟨u,q⟩: ∃u,(w.alloc (.deferred (some []))).alloc (.loop (rec .ready none))=u:=⟨_,rfl⟩
 have a1:u.heap[w.heap.size+1]? =some (.loop (rec .ready none)):=by
  rw [<-q];have:=b4 (w.alloc (.deferred (some []))) (.loop (rec .ready none));rwa [dd] at this
 have a0:u.heap[w.heap.size]? =some (.deferred (some [])):=by
  rw [<-q];exact (Below.heap_alloc _ _ _ (by simp)).trans (b4 w _)
 have aB:I [] u:=by rw [<-q];exact hI.alloc _ (hI.alloc _ h0)
 have a5:Below w.heap.size w u:=by
  rw [<-q];exact ((Below.refl _ w).alloc (bR _) _).alloc (by simp) _
 refine ⟨w.heap.size+1,[{ target:= .collected w.heap.size,args:= #[] }],u,{ target:= .fn (.func gf) lb,args:= #[.func (.yield (w.heap.size+1)) #[] #[]] },u,gf,
  #[.func (.yield (w.heap.size+1)) #[] #[]]++lb,u,?_,?_,?_,?_,λ_=>h1,?_⟩
 ·rw [<-q,b];exact run_enterLoop_outer _ _ _ _ _
 ·simp only [resolve,z]
  simp [go_sem]
 ·intro f' U;simp [Target.leads] at U;subst U;exact ap
 ·simp [invoke,go_sem,eg]
 ·
  refine (Z (w.heap.size+1)
   (λpre W=>I pre W/\W.heap[w.heap.size+1]? =some (.loop (rec .ready none))/\W.heap[w.heap.size]? =some (.deferred (some [])))
   (λpre W=> ∃c,M c pre W/\W.heap[w.heap.size+1]? =some (.loop (rec .done (some c)))/\W.heap[w.heap.size]? =some (.deferred (some [])))
   u a5
   (λs A B hs z=>⟨aT s A B z hs.1,hC A B _ _ z (by omega) hs.2.1 rfl,hC A B _ _ z (bR _) hs.2.2 rfl⟩)
   (λs A B hs z=>by
     obtain ⟨c,hc,hl,hk⟩:=hs
     exact ⟨c,N c s A B z hc,hC A B _ _ z (by omega) hl rfl,hC A B _ _ z (bR _) hk rfl⟩)
   ?_ ⟨aB,a1,a0⟩).mono ?_
  ·
   rintro pre x W T ⟨hi,hl,hk⟩
   have hy:=run_yield (P:=P) (args:=encs x) hl (by rw [b];exact bf x)
   rw [b] at hy
   refine ⟨fn,_,assign,body,hy,roundIn_of_wpIn a6 (r _ pre x W _ (by have:=(bd.1 hl).1;omega) T hi λa' V a4 X a9=> ?_)⟩
   have E:V.heap[w.heap.size+1]? =some (.loop (rec .ready none)):=X.same _ _ (by omega) hl rfl
   have a8:V.heap[w.heap.size]? =some (.deferred (some [])):=X.same _ _ (bR _) hk rfl
   refine ⟨_,run_beginRound E (by rw [b]),?_⟩
   have be:w.heap.size+1 < V.heap.size:=(bd.1 E).1
   have bb:(V.putObj (w.heap.size+1) (.loop { rec .ready none with state:= .busy })).heap[w.heap.size+1]? =some (.loop { rec .ready none with state:= .busy }):=b0 be
   have a7:(V.putObj (w.heap.size+1) (.loop { rec .ready none with state:= .busy })).heap[w.heap.size]? =some (.deferred (some [])):=(bx (by omega)).trans a8
   have bm:Kp W (V.putObj (w.heap.size+1) (.loop { rec .ready none with state:= .busy })):=G a9 (O _ _ _ _ (by omega) E rfl rfl)
   refine wpIn_mono (H _ pre x a' _ T ((ao x a').putObj _ a4 (.inr rfl) E rfl)) ?_
   have fin: ∀(jump:Option Code) (m:br),ds w.heap.size (V.putObj (w.heap.size+1) (.loop { rec .ready none with state:= .busy })) m->
     (Instr.endRound (w.heap.size+1) jump).run P m= .ok (.bool jump.isNone) (m.putObj (w.heap.size+1) (.loop (rec (if jump.isNone then .ready else .done) jump)))/\
     m.heap[w.heap.size+1]? =some (.loop { rec .ready none with state:= .busy })/\
     (m.putObj (w.heap.size+1) (.loop (rec (if jump.isNone then .ready else .done) jump))).heap[w.heap.size+1]? =some (.loop (rec (if jump.isNone then .ready else .done) jump))/\
     (m.putObj (w.heap.size+1) (.loop (rec (if jump.isNone then .ready else .done) jump))).heap[w.heap.size]? =some (.deferred (some [])):= λjump m f=>by
    have d:=f.same _ _ (by omega) bb rfl
    have:=run_endRound (P:=P) jump d
    rw [b] at this ⊢
    exact ⟨this,by rw [b] at d;exact d,b0 (bd.1 d).1,(bx (by omega)).trans (f.same _ _ (bR _) a7 rfl)⟩
   rintro e a3 m hp
   cases e with
   | normal=>
     obtain ⟨f,Y,h⟩:=hp
     obtain ⟨hr,d,j,i⟩:=fin none m f
     exact ⟨_,_,hr,.inl ⟨rfl,⟨hI.putObj _ h (.inr rfl) d rfl,j,i⟩,G (G bm Y) (O _ _ _ _ (by omega) d rfl rfl)⟩⟩
   | ret=>
     obtain ⟨f,h⟩:=hp
     obtain ⟨hr,d,j,i⟩:=fin (some .ret) m f
     exact ⟨_,_,hr,.inr ⟨rfl,.ret,(y _).putObj _ h (.inr rfl) d rfl,j,i⟩⟩
   | exit id=>
     obtain ⟨f,h⟩:=hp
     obtain ⟨hr,d,j,i⟩:=fin (some (.exit id)) m f
     exact ⟨_,_,hr,.inr ⟨rfl,.exit id,(y _).putObj _ h (.inr rfl) d rfl,j,i⟩⟩
   | goto t=>
     obtain ⟨f,h⟩:=hp
     obtain ⟨hr,d,j,i⟩:=fin (some (.goto t)) m f
     exact ⟨_,_,hr,.inr ⟨rfl,.goto t,(y _).putObj _ h (.inr rfl) d rfl,j,i⟩⟩
   | panic ch=>exact hp.elim
   | outgrown=>exact hp.elim
  ·
   rintro e W2 ⟨⟨v,rfl⟩,(⟨xs,hS,hi,hl,hk⟩ | ⟨pre,a2,c,hi,hl,hk⟩)⟩
   ·exact ⟨none,_,by have:=run_endLoop (P:=P) hl (by rw [b];simp);rw [b] at this;exact this,J _ xs _ rfl hS (hI.putObj _ hi (.inr rfl) hl rfl) ((bx (by omega)).trans hk)⟩
   ·exact ⟨some c,_,by have:=run_endLoop (P:=P) hl (by rw [b];simp);rw [b] at this;exact this,L _ c pre _ rfl a2 ((y c).putObj _ hi (.inr rfl) hl rfl) ((bx (by omega)).trans hk)⟩
end
def iy (w:br) (P:bO) (d a:cd) (b n:Nat) (f:Int->Option Int):Prop:=
 ∃D:DataW Unit,w.ownsMap P d (plainElem P a) b n D/\Maps.size D=n/\ ∀k,(Maps.has D (.int .i64 k)=(f k).isSome)/\ ∀c,f k=some c->D.atKey (.int .i64 k) (.lit (.int .i64 0))= .lit (.int .i64 c)
theorem Hz {H:Type} {w w':br} {P:bO} {k:cd} {R:b5->Option (DataW H×List MemPlace)} {b n:Nat} {D:DataW H} (h:w.ownsMap P k R b n D) (hb:w'.heap[b]? =w.heap[b]?):w'.ownsMap P k R b n D:=by
 obtain ⟨es,c,h1,h2⟩:=h
 exact ⟨es,c,hb.trans h1,h2⟩
theorem iy.of_block {w w':br} {P:bO} {c a:cd} {b n:Nat} {f:Int->Option Int} (h:iy w P c a b n f) (hb:w'.heap[b]? =w.heap[b]?):iy w' P c a b n f:=by
 obtain ⟨D,h1,h2⟩:=h
 exact ⟨D,Hz h1 hb,h2⟩
theorem iy.below {w w':br} {P:bO} {d c:cd} {b n a:Nat} {f:Int->Option Int} (h:iy w P d c b n f) (hb:b < a) (hw:Below a w w'):iy w' P d c b n f:=h.of_block (hw.block b hb)
theorem iy.made (w:br) (P:bO) (a b:cd):iy (w.alloc (.map #[] 0)) P a b w.heap.size 0 (λ_=>none):=
 ⟨_,World.ownsMap_made w P a _,rfl,λk=>⟨rfl,λc h=>by cases h⟩⟩
theorem Wg {α:Type} {p:List α->Prop} (h0:p []) (h1: ∀l x,p l->p (l++[x])) (l:List α):p l:=by
 have: ∀r:List α,p r.reverse:=by
  intro r
  induction r with
  | nil=>exact h0
  | cons x r ih=>rw [List.reverse_cons];exact h1 _ _ ih
 simpa using this l.reverse
theorem ads (k:Int):ph [] k=none:=rfl
theorem Wt:dE []=[]:=rfl
theorem Nw (ps:List (Int×Int)) (p:Int×Int) (k:Int):ph (ps++[p]) k=if (ph ps k).isSome then ph ps k else if p.1=k then some p.2 else none:=by
 unfold ph
 rw [List.find?_append]
 cases h:ps.find? λp=>p.1==k with
 | some q=>simp
 | none=>
   simp only [Option.map_none,Option.isSome_none,Bool.false_eq_true,if_false,Option.none_or,List.find?_cons]
   by_cases e:p.1=k
   ·simp [e]
   ·have:(p.1==k)=false:=by simp [e]
    simp [e,this]
theorem B4 (ps:List (Int×Int)) (p:Int×Int):dE (ps++[p])=if (dE ps).contains p.1 then dE ps else dE ps++[p.1]:=by
 unfold dE;rw [List.foldl_append];rfl
theorem uy (ps:List (Int×Int)) (k:Int):k∈dE ps↔(ph ps k).isSome=true:=by
 induction ps using Wg generalizing k with
 | h0=>simp [Wt,ads]
 | h1 ps p ih=>
   rw [B4,Nw]
   by_cases hc:p.1∈dE ps
   ·have a:=(ih p.1).1 hc
    simp only [c2,hc,if_true]
    rw [ih]
    by_cases e:p.1=k
    ·subst e;simp [a]
    ·by_cases hk:(ph ps k).isSome=true
     ·simp [hk]
     ·simp [hk,e]
   ·have a: ¬(ph ps p.1).isSome=true:= λh=>hc ((ih p.1).2 h)
    simp only [c2,hc,if_false,ck,cv]
    rw [ih]
    by_cases hk:(ph ps k).isSome=true
    ·simp [hk]
    ·by_cases e:p.1=k
     ·simp [hk,e]
     ·simp [hk,e,Ne.symm e]
theorem FN (ps:List (Int×Int)):(dE ps).length<=ps.length:=by
 induction ps using Wg with
 | h0=>simp [Wt]
 | h1 ps p ih=>
   rw [B4]
   split<;>simp<;>omega
theorem iy.same {w:br} {P:bO} {c a:cd} {b:Nat} {ps:List (Int×Int)} {p:Int×Int} (h:iy w P c a b (dE ps).length (ph ps)) (hk:(ph ps p.1).isSome=true):iy w P c a b (dE (ps++[p])).length (ph (ps++[p])):=by
 have h1:dE (ps++[p])=dE ps:=by rw [B4];simp [(uy ps p.1).2 hk]
 have h2:ph (ps++[p])=ph ps:=by
  funext k
  rw [Nw]
  by_cases e:(ph ps k).isSome=true
  ·simp [e]
  ·have: ¬p.1=k:= λh=>e (h▸hk)
   simp only [e,if_false,this,if_false]
   simp at e
   simp [e]
 rw [h1,h2];exact h
theorem iy.put {w':br} {P:bO} {g f:cd} {b:Nat} {ps:List (Int×Int)} {p:Int×Int} (hk:(ph ps p.1).isSome=false) {D:DataW Unit} (hm:Maps.IsMap D) (ht:Maps.Tidy D) (hs:Maps.size D=(dE ps).length) (hf: ∀k,(Maps.has D (.int .i64 k)=(ph ps k).isSome)/\ ∀c,ph ps k=some c->D.atKey (.int .i64 k) (.lit (.int .i64 0))= .lit (.int .i64 c))
  (h:w'.ownsMap P g (plainElem P f) b ((dE ps).length+1) (D.put (.int .i64 p.1) (.lit (.int .i64 p.2)))):iy w' P g f b (dE (ps++[p])).length (ph (ps++[p])):=by
 have d:p.1∉dE ps:= λh=>by rw [(uy ps p.1).1 h] at hk;cases hk
 have h1:(dE (ps++[p])).length=(dE ps).length+1:=by rw [B4];simp [d]
 rw [h1]
 refine ⟨_,h,?_,λk=> ?_⟩
 ·rw [Maps.size_put ht,(hf p.1).1,hk,hs];rfl
 ·rw [Nw]
  by_cases e:p.1=k
  ·subst e
   rw [Maps.has_put_same hm (show WideAt.IsKeyLit (.int .i64 p.1) from trivial),Maps.atKey_put_same hm (show WideAt.IsKeyLit (.int .i64 p.1) from trivial)]
   simp only [hk]
   simp
  ·have a:(bM .i64 k)≠ .int .i64 p.1:= λh=>by cases h;exact e rfl
   rw [Maps.has_put_other a,Maps.atKey_put_other a]
   simp only [e,if_false]
   by_cases hl:(ph ps k).isSome=true
   ·simp only [hl,if_true];rw [<-hl];exact hf k
   ·simp only [hl,if_false]
    simp only [Bool.not_eq_true] at hl
    rw [(hf k).1,hl]
    simp
theorem iy.look {w:br} {P:bO} {t g d:cd} {b n:Nat} {f:Int->Option Int} (h:iy w P g d b n f) (ht:P.underlying t=some (.map g d)) (hk:P.underlying g=some (.int .i64)) (he:P.underlying d=some (.int .i64)) (hz:(zeroValue d).run P w= .ok (.int .i64 0) w) {k:Int} (hw:(bM .i64 k).wf=true):
  ∃c,(Instr.lookup t (.map (some b)) (.int .i64 k) true).run P w= .ok (.tuple #[.int .i64 c,.bool (f k).isSome]) w/\ ∀x,f k=some x->c=x:=by
 obtain ⟨D,h1,h2,i⟩:=h
 obtain ⟨v,ps,a,hv⟩:=h1.look_ok (Maps.int_keyed hk) ht hz (zd:= .lit (.int .i64 0)) (zp:=[]) (plainElem_int he (by decide)) (Maps.keyOf_int_mk hk hw)
 obtain ⟨c,rfl,hc,j⟩:=plainElem_int_inv he hv
 refine ⟨c,by rw [a,(i k).1],λx hx=> ?_⟩
 have:=(i k).2 x hx
 have e:D.atKey (.int .i64 k) (.lit (.int .i64 0))= .lit (.int .i64 c):=congrArg Prod.fst hc
 rw [e] at this
 simpa using this
theorem iy.stored {w:br} {P:bO} {t d c:cd} {b:Nat} {ps:List (Int×Int)} {p:Int×Int} (h:iy w P d c b (dE ps).length (ph ps)) (ht:P.underlying t=some (.map d c)) (hk:P.underlying d=some (.int .i64)) (he:P.underlying c=some (.int .i64)) (hl:(ph ps p.1).isSome=false) (hn:ps.length < maxLen)
  (e:(bM .i64 p.1).wf=true) (f:(bM .i64 p.2).wf=true): ∃w',(Instr.mapUpdate t (.map (some b)) (.int .i64 p.1) (.int .i64 p.2)).run P w= .ok () w'/\iy w' P d c b (dE (ps++[p])).length (ph (ps++[p]))/\w.grownBy w' (some b):=by
 obtain ⟨D,h1,h2,g⟩:=h
 obtain ⟨w',a,i,j⟩:=h1.update (Maps.int_keyed hk) ht (Nat.lt_of_le_of_lt (FN ps) hn) (Maps.keyOf_int_mk hk e) (plainElem_int he f)
 exact ⟨w',a,iy.put (p:=p) hl h1.isMap (h1.tidy (Maps.int_keyed hk)) h2 g i,j⟩
theorem iy.len {w:br} {P:bO} {t c a:cd} {b n:Nat} {f:Int->Option Int} (h:iy w P c a b n f) (ht:P.underlying t=some (.map c a)) (ty:cd):(Builtin.len_ #[t] ty #[.map (some b)]).run P w= .ok (.int .i64 n) w:=by
 obtain ⟨D,h1,h2,d⟩:=h
 rw [h1.len ht,h2]
theorem iy.lt {w:br} {P:bO} {c a:cd} {b n:Nat} {f:Int->Option Int} (h:iy w P c a b n f):b < w.heap.size:=by
 obtain ⟨D,h1,h2⟩:=h;exact h1.lt
theorem iy.alloc {w:br} {P:bO} {c a:cd} {b n:Nat} {f:Int->Option Int} (h:iy w P c a b n f) (o:Obj):iy (w.alloc o) P c a b n f:=by
 obtain ⟨D,h1,h2⟩:=h;exact ⟨D,h1.alloc o,h2⟩
theorem bn {α:Type} {l:List α} {k:Nat} {x:α} (h:l[k]? =some x):l.take (k+1)=l.take k++[x]:=by
 rw [List.take_add_one,h];rfl
theorem TI {w0 w w':br} {b n:Nat} (hb:Below n w0 w) (a:w.grownBy w' (some b)) (h:n<=b) (hn:n<=w0.heap.size):Below n w0 w':=hb.grown a (Nat.le_trans hn hb.size) λk e=>by cases e;exact h
end Go.AM
namespace Go.AM
open Go.RowKit Go.Lib
def dOf (ns:List Int) (k:Nat):Int:=ek.wrap (ns.getD k 0 - (0::ns).getD k 0)
theorem FZ (b a:IV->Option (List IV)): ∀(es:List (List IV)) (last:Int) (acc:ByteArray) (r:List IV),s7 b a last es acc=some r->
  ∃(ns:List Int) (f:Nat->ByteArray),es=ns.map (λn=>[.int .i64 n])/\f 0=acc/\r=[.str (f ns.length)]/\
   ∀k,k < ns.length-> ∃z q s,b (.int .i64 (ek.wrap (ns.getD k 0 - (last::ns).getD k 0)))=some z/\a (nth z 0)=some q/\nth q 0= .str s/\(f k).size+s.size<=140737488355328/\f (k+1)=f k++s
 | [],last,acc,r,h=>by
   simp only [s7,Option.some.injEq] at h
   exact ⟨[],λ_=>acc,rfl,rfl,h.symm,λk hk=>by simp at hk⟩
 | e::es,last,acc,r,h=>by
   by_cases c: ∃n,e=[.int .i64 n]
   ·obtain ⟨n,rfl⟩:=c
    simp only [s7] at h
    obtain ⟨z,hz,h⟩:=cb.1 h
    obtain ⟨q,p,h⟩:=cb.1 h
    split at h
    ·rename_i s hs
     split at h
     ·rename_i hle
      obtain ⟨ns,f,h1,h2,m,o⟩:=FZ b a es n (acc++s) r h
      refine ⟨n::ns,λk=>match k with | 0=>acc | k+1=>f k,by rw [h1];rfl,rfl,m,λk hk=> ?_⟩
      cases k with
      | zero=>exact ⟨z,q,s,by simpa using hz,p,hs,hle,h2⟩
      | succ k=>
        obtain ⟨v,t,u,d,g,i,j,l⟩:=o k (by simpa using hk)
        exact ⟨v,t,u,by simpa using d,g,i,j,l⟩
     ·cases h
    ·cases h
   ·exfalso
    unfold s7 at h
    split at h
    ·rename_i heq;cases heq
    ·rename_i heq;cases heq;exact c ⟨_,rfl⟩
    ·cases h
theorem IH {b a:IV->Option (List IV)} {x:IV} {r:List IV} (h:L8 b a x=some r):
  ∃(ns:List Int) (f:Nat->ByteArray),x= .lst (ns.map λn=>[.int .i64 n])/\ns.length<=2 ^ 40/\f 0=⟨#[]⟩/\r=[.str (f ns.length)]/\
   ∀k,k < ns.length-> ∃z q s,b (.int .i64 (dOf ns k))=some z/\a (nth z 0)=some q/\nth q 0= .str s/\(f k).size+s.size<=140737488355328/\f (k+1)=f k++s:=by
 unfold L8 at h
 split at h
 ·split at h
  ·rename_i es hl
   obtain ⟨ns,f,h1,h2,c,d⟩:=FZ b a es 0 _ r h
   exact ⟨ns,f,by rw [h1],by rw [h1] at hl;simpa using hl,h2,c,d⟩
  ·cases h
 ·cases h
theorem JS (a b:ByteArray):strCells (a++b)=strCells a++strCells b:=by
 simp [strCells]
def KpD (n B b:Nat) (w w':br):Prop:=w'.heap[B]? =w.heap[B]? /\(0 < n->w'.heap[b]? =w.heap[b]?)
theorem KpD.refl (n B b:Nat) (w:br):KpD n B b w w:=⟨rfl,λ_=>rfl⟩
theorem KpD.trans {n B b:Nat} {w w1 w2:br} (h:KpD n B b w w1) (k:KpD n B b w1 w2):KpD n B b w w2:=⟨k.1.trans h.1,λx=>(k.2 x).trans (h.2 x)⟩
theorem BdAt.kept {w w':br} {T e:cd} {b:Nat} {p u:b5} {n:Nat} {bs:List b5} (h:BdAt w T e b p u n bs) {row:Option Nat} (a:w.grownBy w' row) (h1:some b≠row) (h2:u.ownBlock=none\/u.ownBlock≠row):BdAt w' T e b p u n bs:=
 ⟨(a.block b (bd.1 h.heap).1 h1).trans h.heap,h.addr,h.own.kept a h2,h.ne⟩
theorem BdAt.below {w w':br} {T e:cd} {b:Nat} {p u:b5} {n:Nat} {bs:List b5} (h:BdAt w T e b p u n bs) (hb:Below w.heap.size w w'):BdAt w' T e b p u n bs:=
 h.kept (row:=none) ⟨hb.os,hb.tape,hb.output,hb.size,λk hk _=>hb.block k hk⟩ (by simp) (by cases u.ownBlock<;>simp)
end Go.AM
namespace Go.AM
open Go.RowKit
theorem X7 {w:br} {ad:Addr} {u:b5} (h:w.cell? (ad.add 0)=some u) (q:Nat):ad.add q=⟨ad.block,ad.off+q,none⟩:=by
 have h0:ad.add 0=ad:=by simp [Addr.add]
 rw [h0] at h
 have hs:ad.spot=none:=by
  unfold World.cell? at h
  split at h
  ·split at h
   ·cases h
   ·rename_i hs;simpa using hs
  ·cases h
 obtain ⟨b,o,s⟩:=ad
 simp only at hs
 subst hs
 by_cases a:q=0
 ·subst a;simp [Addr.add]
 ·simp [Addr.add,a]
theorem KE {α β:Type} {f:α->Option β}: ∀{l:List α} {r:List β},l.mapM f=some r->r.length=l.length/\ ∀(i:Nat) (x:α),l[i]? =some x-> ∃y,r[i]? =some y/\f x=some y:=by
 intro l r h
 obtain ⟨h1,h2⟩:=gp h
 exact ⟨h1,λi x hx=>h2 i x hx⟩
theorem Qo {w:br} {ok:Nat->Prop} (hok: ∀b,ok b->b < w.heap.size) {es:List (List IV)} {v:b5} (r:RV w ok (.lst es) v) {sz:Nat} (a:0 < sz) (d: ∀e∈es,e.length=sz):
  ∃(A:Option Addr) (cap b off:Nat),v= .slice A es.length cap/\(0 < es.length->A=some ⟨b,off,none⟩/\b < w.heap.size)/\ ∀(i j:Nat) (e:List IV) (x:IV),es[i]? =some e->e[j]? =some x-> ∃u,w.cell? ⟨b,off+i*sz+j,none⟩=some u/\RV w ok x u:=by
 obtain ⟨A,cap,vs,hv,hr,hc⟩:=Su hok r a d
 by_cases he:0 < es.length
 ·obtain ⟨ad,l,k⟩:=hc he
  have f:0 < vs.length:=by rw [hr.1];exact Nat.mul_pos he a
  have h0:=k 0 vs[0] (bA f)
  have hp:=X7 h0
  have hb:ad.block < w.heap.size:=by
   obtain ⟨c,T,fr,h1,_⟩:=CU h0
   rw [mZ] at h1
   exact (bd.1 h1).1
  refine ⟨A,cap,ad.block,ad.off,hv,λ_=>⟨?_,hb⟩,λi j e x h1 h2=> ?_⟩
  ·rw [l]
   have:=hp 0
   simp [Addr.add] at this
   rw [this]
  ·obtain ⟨u,hu,g⟩:=hr.2.2 i j e x h1 h2
   exact ⟨u,by rw [<-k _ u hu,hp,Nat.add_assoc],g⟩
 ·refine ⟨A,cap,0,0,hv,λh=>absurd h he,λi j e x h1 _=> ?_⟩
  have:=(bC.1 h1).1
  omega
theorem qI {e:List IV} {p:Int×Int} (h:Kj e=some p): ∃s r,e=[.int .i64 p.1,.int .i64 p.2,.str s,.flt .f64 r]/\(bM .i64 p.1).wf=true/\(bM .i64 p.2).wf=true:=by
 unfold Kj at h
 split at h
 ·split at h
  ·rename_i hw;cases h;exact ⟨_,_,rfl,hw.1,hw.2⟩
  ·cases h
 ·cases h
theorem Me {f:List IV->Option (Int×Int)} {es:List (List IV)} {ps:List (Int×Int)} (h:es.mapM f=some ps):ps.length=es.length:=(KE h).1
def strOf:IV->ByteArray | .str s=>s | _=>default
def Vg (w:br) (a:Addr):Nat:=match w.cell? a with | some (.float _ n)=>n | _=>0
def DZ (w:br) (b off:Nat) (ps:List (Int×Int)) (c:Nat->ByteArray) (a:Nat->Nat):Prop:=
 ∀(j:Nat) (p:Int×Int),ps[j]? =some p->w.cell? ⟨b,off+j*4,none⟩=some (.int .i64 p.1)/\w.cell? ⟨b,off+j*4+1,none⟩=some (.int .i64 p.2)/\w.cell? ⟨b,off+j*4+2,none⟩=some (.string (c j))/\w.cell? ⟨b,off+j*4+3,none⟩=some (.float .f64 (a j))
theorem Yw {w:br} {ok:Nat->Prop} (hok: ∀b,ok b->b < w.heap.size) {es:List (List IV)} {v:b5} (r:RV w ok (.lst es) v) {ps:List (Int×Int)} (h:es.mapM Kj=some ps):
  ∃(A:Option Addr) (cap b off:Nat) (D:Nat->ByteArray) (g:Nat->Nat),v= .slice A ps.length cap/\(0 < ps.length->A=some ⟨b,off,none⟩)/\(0 < ps.length->b < w.heap.size)/\(∀p∈ps,(bM .i64 p.1).wf=true/\(bM .i64 p.2).wf=true)/\DZ w b off ps D g:=by
 obtain ⟨hl,d⟩:=KE h
 have hlen: ∀e∈es,e.length=4:= λe he=>by
  obtain ⟨i,hi⟩:=b1.1 he
  obtain ⟨p,_,hp⟩:=d i e hi
  obtain ⟨s,r,rfl,_⟩:=qI hp
  rfl
 obtain ⟨A,cap,b,off,hv,f,hc⟩:=Qo hok r (by decide) hlen
 refine ⟨A,cap,b,off,λj=>strOf (((es.getD j []).getD 2 .nilp)),λj=>Vg w ⟨b,off+j*4+3,none⟩,by rw [hl];exact hv,λh=>(f (by omega)).1,λh=>(f (by omega)).2,λp hp=> ?_,λj p hj=> ?_⟩
 ·obtain ⟨i,hi⟩:=b1.1 hp
  have a:i < es.length:=by rw [<-hl];exact (bC.1 hi).1
  obtain ⟨C,h1,h2⟩:=d i _ (bA a)
  rw [hi] at h1;cases h1
  obtain ⟨s,r,_,o,q⟩:=qI h2
  exact ⟨o,q⟩
 ·have a:j < es.length:=by rw [<-hl];exact (bC.1 hj).1
  have he:=bA a
  obtain ⟨C,h1,h2⟩:=d j _ he
  rw [hj] at h1;cases h1
  obtain ⟨s,r,t,_⟩:=qI h2
  rw [t] at he
  have c:es.getD j []=[.int .i64 p.1,.int .i64 p.2,.str s,.flt .f64 r]:=by rw [bB,he];rfl
  simp only [c]
  obtain ⟨u0,k,u⟩:=hc j 0 _ _ he rfl
  obtain ⟨u1,l,x⟩:=hc j 1 _ _ he rfl
  obtain ⟨u2,m,y⟩:=hc j 2 _ _ he rfl
  obtain ⟨u3,n,z⟩:=hc j 3 _ _ he rfl
  cases u;cases x;cases y;cases z
  exact ⟨k,l,m,by unfold Vg;rw [n]⟩
theorem aaR {w:br} {ok:Nat->Prop} {d f g:IV} {args:List b5} (h:cL w ok [[d],[f],[g]] args): ∃a b c,args=[a,b,c]/\RV w ok d a/\RV w ok f b/\RV w ok g c:=by
 obtain ⟨hl,hr⟩:=h
 match args,hl with
 | [a,b,c],_=>
   have key: ∀{x:IV} {v:b5},ArgRel w ok [x] v->RV w ok x v:= λh=>by
    rcases h with ⟨y,e,h⟩ | ⟨h,_⟩
    ·cases e;exact h
    ·simp at h
   exact ⟨a,b,c,rfl,key (hr 0 _ _ rfl rfl),key (hr 1 _ _ rfl rfl),key (hr 2 _ _ rfl rfl)⟩
theorem abS {w:br} {ok:Nat->Prop} {c d:IV} {args:List b5} (h:cL w ok [[c],[d]] args): ∃a b,args=[a,b]/\RV w ok c a/\RV w ok d b:=by
 obtain ⟨hl,hr⟩:=h
 match args,hl with
 | [a,b],_=>
   have key: ∀{x:IV} {v:b5},ArgRel w ok [x] v->RV w ok x v:= λh=>by
    rcases h with ⟨y,e,h⟩ | ⟨h,_⟩
    ·cases e;exact h
    ·simp at h
   exact ⟨a,b,rfl,key (hr 0 _ _ rfl rfl),key (hr 1 _ _ rfl rfl)⟩
theorem RI {P:bO} {g:dq} (H: ∀(w:br) (A:Option Addr) (b off cap:Nat) (ps:List (Int×Int)) (t:Nat->ByteArray) (n:Nat->Nat),(0 < ps.length->A=some ⟨b,off,none⟩)->(0 < ps.length->b < w.heap.size)->ps.length<=2 ^ 40->
   (∀p∈ps,(bM .i64 p.1).wf=true/\(bM .i64 p.2).wf=true)->DZ w b off ps t n-> ∀x y:Int,(bM .i64 y).wf=true->
   et P g #[.slice A ps.length cap,.int .i64 x,.int .i64 y] w λe u=>e= .returned (.bool ((upto (ph ps) (dE ps).length y).contains x))/\Below w.heap.size w u):
  ay P g ⟨.pure,true,[1],0,λl=>match l with | [[d],[f],[i]]=>Ns d f i | _=>none⟩:=by
 have v: ∀d f i r,Ns d f i=some r-> ∃es a b ps,d= .lst es/\f= .int .i64 a/\i= .int .i64 b/\es.length<=2 ^ 40/\(bM .i64 b).wf=true/\es.mapM Kj=some ps/\r=[.bool ((upto (ph ps) (dE ps).length b).contains a)]:=by
  intro d f i r h
  unfold Ns at h
  split at h
  ·split at h
   ·rename_i hw
    obtain ⟨ps,h1,h2⟩:=cc.1 h
    exact ⟨_,_,_,ps,rfl,rfl,rfl,hw.1,hw.2,h1,h2.symm⟩
   ·cases h
  ·cases h
 refine ⟨λW I w ok m args r hk hok c hr=> ?_,λ_ m r hr x hx=> ?_⟩
 ·dsimp only at hr ⊢
  split at hr
  ·rename_i d f i
   obtain ⟨es,a,b,ps,rfl,rfl,rfl,j,q,k,rfl⟩:=v _ _ _ _ hr
   obtain ⟨J,K,L,rfl,E,F,G⟩:=aaR c
   cases F;cases G
   obtain ⟨A,cap,z,off,t,n,rfl,C,hb,s,o⟩:=Yw hok E k
   refine (H w A z off cap ps t n C hb (by rw [Me k];exact j) s o a b q).mono ?_
   rintro e u ⟨rfl,D⟩
   exact ⟨_,rfl,D,.inl ⟨rfl,.bool _⟩⟩
  ·cases hr
 ·dsimp only at hr
  split at hr
  ·obtain ⟨es,a,b,ps,rfl,rfl,rfl,_,_,_,rfl⟩:=v _ _ _ _ hr
   simp at hx;subst hx;rfl
  ·cases hr
theorem zW {w:br} {B e:Nat} {v:b5} {zs:List Int} {ok:Nat->Prop} (hr:w.ownsRow B e 1 v zs.length (zs.map λz=> .int .i64 z)) (hok: ∀b,B<=b->b < w.heap.size->ok b):RV w ok (KJ zs) v:=by
 obtain ⟨h0,⟨rfl,h1⟩ | ⟨g,cap,cur,rfl,h1,h2,k,_,m,l⟩⟩:=hr
 ·have:zs=[]:=List.length_eq_zero_iff.1 h1
  subst this
  exact .lst [] none 0 1 (λ_ _=>undef) (by simp) (by simp) (λi j hi=>by simp at hi) (λi j e c h=>by simp at h)
 ·have hlen:(zs.map λz=>[IV.int .i64 z]).length=zs.length:=by simp
  have key:RV w ok (KJ zs) (.slice (some ⟨g,0,none⟩) (zs.map λz=>[IV.int .i64 z]).length cap):=by
   refine .lst _ _ _ 1 (λi _=> .int .i64 (zs.getD i 0)) (by rw [hlen];exact k) (λc hc=> ?_) (λi j hi hj=> ?_) (λi j c x a d=> ?_)
   ·obtain ⟨z,_,rfl⟩:=List.mem_map.1 hc;rfl
   ·rw [hlen] at hi
    refine ⟨_,rfl,hok g h1 (bd.1 h2).1,?_⟩
    obtain rfl:j=0:=by omega
    rw [dI,iY h2]
    have f:(cur.toList.take (zs.length*1))[i]? =some (.int .i64 zs[i]):=by rw [l];simp [hi]
    rw [List.getElem?_take_of_lt (by omega)] at f
    simpa [bB,hi] using f
   ·rw [List.getElem?_map] at a
    cases hz:zs[i]? with
    | none=>rw [hz] at a;cases a
    | some z=>
      rw [hz] at a;cases a
      cases j with
      | zero=>cases d;simp only [bB,hz,c8];exact .int _ _
      | succ j=>simp at d
  rw [hlen] at key
  exact key
def adY (ob:Nat->Bool) (ps:List (Int×Int)) (k:Nat):Prop:= ∀j,j < k->ob j=true/\ ∀p q,0 < j->ps[j - 1]? =some p->ps[j]? =some q->p.1 < q.1
theorem D5 (ob:Nat->Bool): ∀(ps:List (Int×Int)) (i:Nat),zV ob ps i=true↔ ∀j,j < ps.length->ob (i+j)=true/\ ∀p q,0 < j->ps[j - 1]? =some p->ps[j]? =some q->p.1 < q.1
 | [],i=>by simp [zV]
 | [p],i=>by
   simp only [zV,List.length_singleton]
   constructor
   ·intro h j hj
    obtain rfl:j=0:=by omega
    exact ⟨by simpa using h,λp q h0=>by omega⟩
   ·intro h
    simpa using (h 0 (by omega)).1
 | p::q::l,i=>by
   simp only [zV,Bool.and_eq_true,decide_eq_true_eq]
   rw [D5 ob (q::l) (i+1)]
   constructor
   ·rintro ⟨h1,h2,f⟩ j hj
    cases j with
    | zero=>exact ⟨by simpa using h1,λp q h0=>by omega⟩
    | succ j=>
      obtain ⟨d,e⟩:=f j (by simpa using hj)
      refine ⟨by rw [show i+(j+1)=i+1+j by omega];exact d,λa c _ b hc=> ?_⟩
      cases j with
      | zero=>simp at b hc;subst b;subst hc;exact h2
      | succ j=>exact e a c (by omega) (by simpa using b) (by simpa using hc)
   ·intro h
    refine ⟨by simpa using (h 0 (by simp)).1,(h 1 (by simp)).2 p q (by omega) rfl rfl,λj hj=> ?_⟩
    obtain ⟨d,e⟩:=h (j+1) (by simpa using hj)
    refine ⟨by rw [show i+1+j=i+(j+1) by omega];exact d,λa c h0 b hc=> ?_⟩
    refine e a c (by omega) ?_ (by simpa using hc)
    cases j with
    | zero=>omega
    | succ j=>simpa using b
theorem zU {ob:Nat->Bool} {ps:List (Int×Int)}:zV ob ps 0=true↔adY ob ps ps.length:=by
 rw [D5]
 simp only [Nat.zero_add]
 rfl
end Go.AM
namespace Go.AM
open Go.RowKit
theorem abe {w:br} {ok:Nat->Prop} (hok: ∀b,ok b->b < w.heap.size) {es:List (List IV)} {v:b5} (r:RV w ok (.lst es) v) {ps:List (Int×Int)} (h:es.mapM Kj=some ps):
  ∃(A:Option Addr) (cap b off:Nat) (o:Nat->ByteArray) (l:Nat->Nat),v= .slice A ps.length cap/\(0 < ps.length->A=some ⟨b,off,none⟩)/\(0 < ps.length->b < w.heap.size)/\(∀p∈ps,(bM .i64 p.1).wf=true/\(bM .i64 p.2).wf=true)/\DZ w b off ps o l/\
   ∀(j:Nat) (p:Int×Int),ps[j]? =some p->es[j]? =some [.int .i64 p.1,.int .i64 p.2,.str (o j),.flt .f64 (canF .f64 (l j))]:=by
 obtain ⟨hl,d⟩:=KE h
 have hlen: ∀e∈es,e.length=4:= λe he=>by
  obtain ⟨i,hi⟩:=b1.1 he
  obtain ⟨p,_,hp⟩:=d i e hi
  obtain ⟨s,r,rfl,_⟩:=qI hp
  rfl
 obtain ⟨A,cap,b,off,hv,m,hc⟩:=Qo hok r (by decide) hlen
 refine ⟨A,cap,b,off,λj=>strOf (((es.getD j []).getD 2 .nilp)),λj=>Vg w ⟨b,off+j*4+3,none⟩,by rw [hl];exact hv,λh=>(m (by omega)).1,λh=>(m (by omega)).2,λp hp=> ?_,λj p hj=> ?_,λj p hj=> ?_⟩
 ·obtain ⟨i,hi⟩:=b1.1 hp
  have c:i < es.length:=by rw [<-hl];exact (bC.1 hi).1
  obtain ⟨n,h1,h2⟩:=d i _ (bA c)
  rw [hi] at h1;cases h1
  obtain ⟨s,r,_,x,y⟩:=qI h2
  exact ⟨x,y⟩
 ·have c:j < es.length:=by rw [<-hl];exact (bC.1 hj).1
  have he:=bA c
  obtain ⟨n,h1,h2⟩:=d j _ he
  rw [hj] at h1;cases h1
  obtain ⟨s,r,g,_⟩:=qI h2
  rw [g] at he
  have a:es.getD j []=[.int .i64 p.1,.int .i64 p.2,.str s,.flt .f64 r]:=by rw [bB,he];rfl
  simp only [a]
  obtain ⟨u0,q,z⟩:=hc j 0 _ _ he rfl
  obtain ⟨u1,t,C⟩:=hc j 1 _ _ he rfl
  obtain ⟨u2,u,D⟩:=hc j 2 _ _ he rfl
  obtain ⟨u3,f,k⟩:=hc j 3 _ _ he rfl
  cases z;cases C;cases D;cases k
  exact ⟨q,t,u,by unfold Vg;rw [f]⟩
 ·have c:j < es.length:=by rw [<-hl];exact (bC.1 hj).1
  have he:=bA c
  obtain ⟨n,h1,h2⟩:=d j _ he
  rw [hj] at h1;cases h1
  obtain ⟨s,r,g,_⟩:=qI h2
  rw [g] at he
  have a:es.getD j []=[.int .i64 p.1,.int .i64 p.2,.str s,.flt .f64 r]:=by rw [bB,he];rfl
  simp only [a]
  obtain ⟨u3,f,k⟩:=hc j 3 _ _ he rfl
  cases k
  unfold Vg
  rw [f]
  exact he
theorem aaJ {w:br} {ok:Nat->Prop} {b:IV} {args:List b5} (h:cL w ok [[b]] args): ∃a,args=[a]/\RV w ok b a:=by
 obtain ⟨hl,hr⟩:=h
 match args,hl with
 | [a],_=>
   rcases hr 0 _ _ rfl rfl with ⟨y,e,h⟩ | ⟨h,_⟩
   ·cases e;exact ⟨a,rfl,h⟩
   ·simp at h
theorem Zu {O:List (List IV)->Option (List IV)} {e:List IV} {b:Bool} (h:XE O e=some b):O [e]=some [.bool b]:=by
 unfold XE at h
 split at h
 ·rename_i c hc;cases h;exact hc
 ·cases h
theorem Zm {P:bO} {one:dq} {j:Bool} {O:List (List IV)->Option (List IV)} (g:ay P one ⟨.pure,j,[1],0,O⟩) (p:Int×Int) (s:ByteArray) (f:Nat) (b:Bool) (h:O [[.int .i64 p.1,.int .i64 p.2,.str s,.flt .f64 (canF .f64 f)]]=some [.bool b]) (W:br):
  et P one #[.agg #[.int .i64 p.1,.int .i64 p.2,.string s,.float .f64 f]] W λe a=>e= .returned (.bool b)/\Below W.heap.size W a:=by
 refine (g.1 W (λ_=>False) W (λ_=>False) [[.int .i64 p.1,.int .i64 p.2,.str s,.flt .f64 (canF .f64 f)]] [.agg #[.int .i64 p.1,.int .i64 p.2,.string s,.float .f64 f]] _ ?_ (λb hb=>hb.elim) ?_ h).mono ?_
 ·exact Keeps.refl _ _
 ·refine ⟨rfl,λi c v hc hv=> ?_⟩
  match i,hc,hv with
  | 0,hc,hv=>
    cases hc;cases hv
    refine .inr ⟨by simp,_,rfl,rfl,λi x u hx hu=> ?_⟩
    match i,hx,hu with
    | 0,hx,hu=>cases hx;cases hu;exact .int _ _
    | 1,hx,hu=>cases hx;cases hu;exact .int _ _
    | 2,hx,hu=>cases hx;cases hu;exact .str _
    | 3,hx,hu=>cases hx;cases hu;exact .flt _ _
    | (k+4),hx,_=>simp at hx
  | (k+1),hc,_=>simp at hc
 ·rintro e a ⟨v,rfl,d,(⟨_,hv⟩ | ⟨h2,_⟩)⟩
  ·have:RV a (CT W (λ_=>False) a) (.bool b) v:=hv
   cases this
   exact ⟨rfl,d⟩
  ·simp at h2
theorem X0 {P:bO} {g one:dq} {J:Bool} {O:List (List IV)->Option (List IV)} (G:ay P one ⟨.pure,J,[1],0,O⟩)
  (H: ∀(w:br) (A:Option Addr) (b off cap:Nat) (ps:List (Int×Int)) (q:Nat->ByteArray) (o:Nat->Nat) (ob:Nat->Bool),(0 < ps.length->A=some ⟨b,off,none⟩)->(0 < ps.length->b < w.heap.size)->ps.length<=2 ^ 40->
    (∀p∈ps,(bM .i64 p.1).wf=true/\(bM .i64 p.2).wf=true)->DZ w b off ps q o->
    (∀(j:Nat) (p:Int×Int) (W:br),ps[j]? =some p->et P one #[.agg #[.int .i64 p.1,.int .i64 p.2,.string (q j),.float .f64 (o j)]] W λe n=>e= .returned (.bool (ob j))/\Below W.heap.size W n)->
    et P g #[.slice A ps.length cap] w λe n=>e= .returned (.bool (zF ob ps))/\Below w.heap.size w n):
  ay P g ⟨.pure,true,[1],0,λl=>match l with | [[k]]=>Y3 O k | _=>none⟩:=by
 have C: ∀k r,Y3 O k=some r-> ∃es ps bs,k= .lst es/\es.length<=2 ^ 40/\es.mapM Kj=some ps/\es.mapM (XE O)=some bs/\r=[.bool (zF (λi=>bs.getD i false) ps)]:=by
  intro k r h
  unfold Y3 at h
  split at h
  ·split at h
   ·rename_i hw
    obtain ⟨ps,h1,h2⟩:=cb.1 h
    obtain ⟨bs,t,u⟩:=cc.1 h2
    exact ⟨_,ps,bs,rfl,hw,h1,t,u.symm⟩
   ·cases h
  ·cases h
 refine ⟨λW K w ok s args r hk hok d hr=> ?_,λ_ s r hr x hx=> ?_⟩
 ·dsimp only at hr ⊢
  split at hr
  ·rename_i k
   obtain ⟨es,ps,bs,rfl,a,f,m,rfl⟩:=C _ _ hr
   obtain ⟨L,rfl,I⟩:=aaJ d
   obtain ⟨A,cap,D,off,q,o,rfl,E,hb,z,v,y⟩:=abe hok I f
   refine (H w A D off cap ps q o (λi=>bs.getD i false) E hb (by rw [Me f];exact a) z v λj p W hj=> ?_).mono ?_
   ·have he:=y j p hj
    obtain ⟨c,h1,h2⟩:=(KE m).2 j _ he
    have t:=Zu h2
    have u:bs.getD j false=c:=by rw [bB,h1];rfl
    rw [u]
    exact Zm G p _ _ c t W
   ·rintro e n ⟨rfl,F⟩
    exact ⟨_,rfl,F,.inl ⟨rfl,.bool _⟩⟩
  ·cases hr
 ·dsimp only at hr
  split at hr
  ·obtain ⟨es,ps,bs,rfl,a,f,m,rfl⟩:=C _ _ hr
   simp only [cv] at hx;subst hx;rfl
  ·cases hr
end Go.AM
namespace Go.AM
open Go.RowKit
structure DeleteWalks (P:bO) (g:dq) (t:cd) (sz:Nat):Prop where
 same: ∀(w:br) (A:Option Addr) (n c i:Nat),i<=n->n<=c->et P g #[.slice A n c,.int .i64 i,.int .i64 i] w λe w'=>e= .returned (.slice A n c)/\w'=w
 cut: ∀(w:br) (b off n c i j:Nat),i < j->j<=n->n<=c->n<=2 ^ 40-> ∀(w1 w2:br),
  (Builtin.append_ #[t,t] t #[.slice (some ⟨b,off,none⟩) i c,.slice (if c=j then some ⟨b,off,none⟩ else some ⟨b,off+j*sz,none⟩) (n - j) (c - j)]).run P w.drew= .ok (.slice (some ⟨b,off,none⟩) (i+(n - j)) c) w1->
  (∀ty,(Builtin.clear_ #[t] ty #[.slice (some ⟨b,off+(i+(n - j))*sz,none⟩) (n - (i+(n - j))) (c - (i+(n - j)))]).run P w1= .ok (.tuple #[]) w2)->
  et P g #[.slice (some ⟨b,off,none⟩) n c,.int .i64 i,.int .i64 j] w λe w'=>e= .returned (.slice (some ⟨b,off,none⟩) (i+(n - j)) c)/\w'=w2
end Go.AM
namespace Go.AM
open Go.RowKit
theorem D7 {F:Fence} {n:Nat} {P:bO} (w:br) {ops:Array Oper} {rest:List Oper} {o:Oper} {a:Act} {Q:Exit->Act->br->Prop}
  (E:o.guard=none) (s x:Operand) (t:cd) (hop:o.op=Op.call { callee:=Callee.builtin Builtin.append,args:= #[s,x],argTypes:= #[t,t] })
  (base:Nat) (e:cd) (i:TypeInfo) (z:b5) (size bytes:Nat) (h1:P.underlying t=some (.slice e)) (h2:P.info? e=some i) (q:i.zero=some z) (r:i.size=size) (y:i.bytes=bytes) (A:z.cells.size=size) (C:0 < size)
  (v:b5) (k:Nat) (xs:List b5) (hs:a.eval s=v) (b:w.ownsRow base e size v k xs) (ad:Addr) (m c:Nat) (news:List b5) (hx:a.eval x= .slice (some ad) m c) (hn:news.length=m*size)
  (hc: ∀j u,news[j]? =some u->w.cell? (ad.add j)=some u) (f: ∀u∈news,u.oneCell'=true) (l:k+m<=maxLen) (b2:(k+m)*bytes<=140737488355328) (p:base<=w.heap.size)
  (D: ∀v' w',w'.ownsRow base e size v' (k+m) (xs++news)->w.grownBy w' v.ownBlock->(v'.ownBlock=v.ownBlock\/v'.ownBlock=some w.heap.size)->wpListIn F n P ops Q rest (a.put o.dst v') w'):
  wpListIn F n P ops Q (o::rest) a w:=by
 refine wpListIn_plain E λK g=> ?_
 obtain ⟨v',w',d,G,H,J,I⟩:=run_append_own_at (P:=P) w base t o.type e i z size bytes h1 h2 q r y A C v k xs b ad m c news hn hc f l b2 p
 unfold Oper.wpIn
 refine ⟨?_,?_⟩
 ·simp [Oper.about,hop,resolve,Target.leads,Sem.run_pure]
 ·rw [Oper.semAt_plain F _ _ (by rw [hop];intro c h;cases h)]
  simp [execOp,hop,resolve,invoke,builtin,hs,hx,d,Result.andThen]
  exact g _ _ (D v' w' G H I)
def Kp3 (b c a:Nat) (A B:br):Prop:=B.heap[b]? =A.heap[b]? /\B.heap[c]? =A.heap[c]? /\B.heap[a]? =A.heap[a]?
theorem Kp3.trans {b c a:Nat} {A B C:br} (h:Kp3 b c a A B) (k:Kp3 b c a B C):Kp3 b c a A C:=⟨k.1.trans h.1,k.2.1.trans h.2.1,k.2.2.trans h.2.2⟩
theorem Tp {W:br} {base e size n r:Nat} {v:b5} {xs:List b5} {o:Obj} (h:W.ownsRow base e size v n xs) (hr:W.heap[r]? =some o) (a:o.isCells=false):v.ownBlock≠some r:=by
 rcases h.2 with ⟨rfl,_⟩ | ⟨g,cap,cur,rfl,h1,h2,_⟩
 ·simp [Value.ownBlock]
 ·intro e
  simp only [Value.ownBlock,Option.some.injEq] at e
  subst e
  rw [h2] at hr;cases hr
  cases a
theorem vK {A B:br} (h:Below A.heap.size A B):KeepsOthers A B:=⟨h.size,λk o hk _=>(h.block k (bd.1 hk).1).trans hk⟩
theorem Qv {A B:br} {base e size n:Nat} {v:b5} {xs:List b5} (h:A.ownsRow base e size v n xs) (b:Below A.heap.size A B):B.ownsRow base e size v n xs:=by
 refine ⟨h.1,?_⟩
 rcases h.2 with h0 | ⟨g,cap,cur,rfl,h1,h2,a⟩
 ·exact .inl h0
 ·exact .inr ⟨g,cap,cur,rfl,h1,(b.block g (bd.1 h2).1).trans h2,a⟩
def QS (W:br) (B:Nat) (o:Option (List Int)) (a:b5) (b:Bool):Prop:=
 match o with
 | none=>a= .slice none 0 0/\b=false
 | some l=>b=true/\W.ownsRow B 3 1 a l.length (l.map (Value.int .i64))
end Go.AM
namespace Go.AM
open Go.RowKit Go.Proofs
def aiK (P:bO) (a:dq):Prop:= ∀(W:br) (B:Nat) (v:b5) (zs:List Int) (x:Int),W.ownsRow B 3 1 v zs.length (zs.map (Value.int .i64))->zs.length<=100000->et P a #[v,.int .i64 x] W λe b=>e= .returned (.bool (zs.contains x))/\Below W.heap.size W b
theorem XC {P:bO} {g:dq} {l:Bool} {K:List (List IV)->Option (List IV)} (j:ay P g ⟨.pure,l,[1],0,K⟩) (h: ∀(zs:List Int) (x:Int),zs.length<=100000->K [[KJ zs],[.int .i64 x]]=some [.bool (zs.contains x)]):aiK P g:=by
 intro W B v zs x a hl
 have hr:RV W (λb=>B<=b/\b < W.heap.size) (KJ zs) v:=zW a λb h1 h2=>⟨h1,h2⟩
 refine (j.1 W (λb=>B<=b/\b < W.heap.size) W (λb=>B<=b/\b < W.heap.size) [[KJ zs],[.int .i64 x]] [v,.int .i64 x] _ (Keeps.refl _ _) (λb hb=>hb.2) ?_ (h zs x hl)).mono ?_
 ·refine ⟨rfl,λi c u hc hu=> ?_⟩
  match i,hc,hu with
  | 0,hc,hu=>cases hc;cases hu;exact .inl ⟨_,rfl,hr⟩
  | 1,hc,hu=>cases hc;cases hu;exact .inl ⟨_,rfl,.int _ _⟩
  | (k+2),hc,_=>simp at hc
 ·rintro e d ⟨u,rfl,f,(⟨_,hv⟩ | ⟨h2,_⟩)⟩
  ·have:RV d (CT W (λb=>B<=b/\b < W.heap.size) d) (.bool (zs.contains x)) u:=hv
   cases this
   exact ⟨rfl,f⟩
  ·simp at h2
theorem Vy {P:bO} {g:dq} (H: ∀(w:br) (A:Option Addr) (b off cap:Nat) (ps:List (Int×Int)) (q:Nat->ByteArray) (m:Nat->Nat),(0 < ps.length->A=some ⟨b,off,none⟩)->(0 < ps.length->b < w.heap.size)->ps.length<=50000->
   (∀p∈ps,(bM .i64 p.1).wf=true/\(bM .i64 p.2).wf=true)->DZ w b off ps q m-> ∀c:Int,(bM .i64 c).wf=true->
   et P g #[.slice A ps.length cap,.int .i64 c] w λe j=> ∃s k,e= .returned (.tuple #[s,.bool k])/\Below w.heap.size w j/\QS j w.heap.size (wX (ph ps) (dE ps).length c) s k):
  ay P g ⟨.pure,false,[1,1],0,λl=>match l with | [[u],[v]]=>aao u v | _=>none⟩:=by
 refine ⟨λW E w ok x args r hk hok f hr=> ?_,λh=>(by cases h)⟩
 dsimp only at hr ⊢
 split at hr
 ·rename_i u v
  obtain ⟨F,G,rfl,C,D⟩:=abS f
  unfold aao at hr
  split at hr
  ·rename_i es c
   split at hr
   ·rename_i d
    obtain ⟨ps,h1,rfl⟩:=cc.1 hr
    obtain ⟨A,cap,b,off,q,m,rfl,y,hb,o,n⟩:=Yw hok C h1
    cases D
    refine (H w A b off cap ps q m y hb (by rw [Me h1];exact d.1) o n c d.2).mono ?_
    rintro e j ⟨s,k,rfl,z,a⟩
    refine ⟨_,rfl,z,?_⟩
    cases t:wX (ph ps) (dE ps).length c with
    | none=>
      rw [t] at a
      obtain ⟨rfl,rfl⟩:=a
      exact ⟨_,rfl,.inl ⟨rfl,zW (zs:=[]) (World.ownsRow_nil j w.heap.size 3 1) λb h1 h2=> .inr ⟨h1,h2⟩⟩,.inl ⟨rfl,.bool _⟩,trivial⟩
    | some l=>
      rw [t] at a
      obtain ⟨rfl,i⟩:=a
      exact ⟨_,rfl,.inl ⟨rfl,zW i λb h1 h2=> .inr ⟨h1,h2⟩⟩,.inl ⟨rfl,.bool _⟩,trivial⟩
   ·cases hr
  ·cases hr
 ·cases hr
end Go.AM
