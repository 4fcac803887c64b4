/- What the functions that are walked by hand hand back, on pure values. -/
import Derived.Shelf.Spec.SlicesInsert
import Derived.Test.YtgoenohknokcmaaGreatAd
import Derived.RangeFuncBox
import Derived.Maps.OwnIn
import Derived.Shelf.SlIterI.Collect
open Array renaming getElem?_eq_some_iff->bd
open Go renaming World->bx,Program->bR,Value->ca,TypeId->ck,FuncId->dq,KeepsFrom->ds,Calls->ek
open Go.World renaming putObj_heap_other->bA,putObj_heap_same->b1,alloc_heap_new->b5,size_alloc->dd
open List renaming getElem?_eq_getElem->bB,getD_eq_getElem?_getD->bC,getElem?_eq_some_iff->bM,mem_iff_getElem?->b3,mem_iff_getElem->b4,mem_cons_self->cb,mem_append->cl,pairwise_cons->cv,mem_singleton->cO,pairwise_iff_getElem->c0,take_append_drop->c1,contains_iff_mem->c2,pairwise_append->c3,mem_cons->c4,getElem_drop->c6,cons_append->c7,length_drop->c9
open Go.Lit renaming int->bO
open Nat renaming le_refl->b0,eq_zero_or_pos->c5
open Option renaming bind_eq_some_iff->cc,map_eq_some_iff->cd,getD_some->c8
set_option linter.unusedVariables false
namespace Go.AM
open Go.RowKit
def oC (ps:List (Int×Int)) (k:Int):Option Int:=(ps.find? λp=>p.1==k).map (·.2)
def dD (ps:List (Int×Int)):List Int:=ps.foldl (λl p=>if l.contains p.1 then l else l++[p.1]) []
def upto (f:Int->Option Int):Nat->Int->List Int
 | 0,_=>[]
 | n+1,x=>match f x with | none=>[] | some y=>y::upto f n y
def Ji:List IV->Option (Int×Int)
 | [.int .i64 c,.int .i64 p,.str _,.flt .f64 _]=>if (bO .i64 c).wf=true/\(bO .i64 p).wf=true then some (c,p) else none
 | _=>none
def Lc (x a b:IV):Option (List IV):=
 match x,a,b with
 | .lst es,.int .i64 a,.int .i64 b=>if es.length<=2 ^ 40/\(bO .i64 b).wf=true then (es.mapM Ji).map λps=>[.bool ((upto (oC ps) (dD ps).length b).contains a)] else none
 | _,_,_=>none
structure StepV where
 (i0 i1 i2 i3:Int) (s4:ByteArray) (f5:Nat) (b6 b7:Bool) (i8 i9:Int) (s10:ByteArray) (f11:Nat)
 deriving Inhabited
def GR (K:List Int) (k:Int):List Int:=if K.contains k then K else K++[k]
structure MvAt where
 (c r par ch:Int) (nm:ByteArray) (rk:Nat)
def Uj (l:List Int) (n:Int):Nat:=(l.findIdx? λx=> !decide (x < n)).getD l.length
def aaK (l:List Int) (n:Int):List Int:=if l[Uj l n]? =some n then l else l.take (Uj l n)++[n]++l.drop (Uj l n)
def K3 (l:List Int):IV:= .lst (l.map λz=>[.int .i64 z])
def A4 (ob:Nat->Bool):List (Int×Int)->Nat->Bool
 | [],_=>true
 | [_],i=>ob i
 | p::q::l,i=>ob i&&(decide (p.1 < q.1)&&A4 ob (q::l) (i+1))
def zb (ob:Nat->Bool) (ps:List (Int×Int)):Bool:=
 decide (ps.length<=2000)&&(A4 ob ps 0&&(dD ps).all λc=> !(upto (oC ps) (dD ps).length c).contains c)
def XP (O:List (List IV)->Option (List IV)) (e:List IV):Option Bool:=match O [e] with | some [.bool b]=>some b | _=>none
def ZI (O:List (List IV)->Option (List IV)) (x:IV):Option (List IV):=
 match x with
 | .lst es=>if es.length<=2 ^ 40 then (es.mapM Ji).bind λps=>(es.mapM (XP O)).map λbs=>[.bool (zb (λi=>bs.getD i false) ps)] else none
 | _=>none
end Go.AM
namespace Go.AM
def uD:List Int->List Int->Option (List Int)
 | out,[]=>some out
 | out,x::l=>if out.contains x then none else uD (out++[x]) l
def vZ (f:Int->Option Int) (N:Nat) (c:Int):Option (List Int):=
 match uD [c] (upto f N c) with
 | none=>none
 | some out=>if out.getLast?=some 0/\(f 0).isNone=true then some out else none
theorem Lk: ∀(l m out:List Int),uD out l=none->uD out (l++m)=none
 | [],m,out,h=>by cases h
 | x::l,m,out,h=>by
   unfold uD at h
   simp only [c7]
   unfold uD
   split
   ·rfl
   ·rename_i hc
    rw [if_neg hc] at h
    exact Lk l m _ h
theorem Dj: ∀(l out:List Int) (x:Int),uD out (l++[x])=(uD out l).bind λr=>if r.contains x then none else some (r++[x])
 | [],out,x=>by
   simp only [List.nil_append]
   unfold uD uD
   rfl
 | y::l,out,x=>by
   simp only [c7]
   unfold uD
   split
   ·rfl
   ·exact Dj l _ x
def ab0 (x c:IV):Option (List IV):=
 match x,c with
 | .lst es,.int .i64 c=>if es.length<=50000/\(bO .i64 c).wf=true then (es.mapM Ji).map λps=>match vZ (oC ps) (dD ps).length c with | some l=>[K3 l,.bool true] | none=>[.lst [],.bool false] else none
 | _,_=>none
end Go.AM
set_option linter.unusedSimpArgs false
namespace Go.AM
abbrev wK (l:List Int):Prop:=l.Pairwise (· < ·)
theorem PR: ∀{a b:List Int},wK a->wK b->(∀x,x∈a↔x∈b)->a=b
 | [],[],_,_,_=>rfl
 | [],y::b,_,_,h=>absurd ((h y).2 cb) (by simp)
 | x::a,[],_,_,h=>absurd ((h x).1 cb) (by simp)
 | x::a,y::b,g,hb,h=>by
   have c:=cv.1 g
   have d:=cv.1 hb
   have f:x=y:=by
    rcases c4.1 ((h x).1 cb) with e | i
    ·exact e
    ·rcases c4.1 ((h y).2 cb) with e | j
     ·exact e.symm
     ·have:=d.1 x i;have:=c.1 y j;omega
   subst f
   congr 1
   refine PR c.2 d.2 λz=> ?_
   have hz:=h z
   simp only [c4] at hz
   constructor
   ·intro hm
    rcases hz.1 (.inr hm) with e | h2
    ·have:=c.1 z hm;omega
    ·exact h2
   ·intro hm
    rcases hz.2 (.inr hm) with e | h2
    ·have:=d.1 z hm;omega
    ·exact h2
theorem aa9 {l:List Int} (hl:wK l) (n:Int):Uj l n<=l.length/\(∀x∈l.take (Uj l n),x < n)/\(∀x∈l.drop (Uj l n),n<=x):=by
 unfold Uj
 cases h:l.findIdx? λx=> !decide (x < n) with
 | none=>
   rw [List.findIdx?_eq_none_iff] at h
   refine ⟨by simp,λx a=> ?_,λx a=>by simp at a⟩
   have:=h x (List.mem_of_mem_take a)
   simpa using this
 | some i=>
   obtain ⟨hi,hp,hn⟩:=List.findIdx?_eq_some_iff_getElem.1 h
   have b:n<=l[i]:=by simpa using hp
   simp only [c8]
   refine ⟨by omega,λx a=> ?_,λx a=> ?_⟩
   ·obtain ⟨j,hj,rfl⟩:=b4.1 a
    simp only [List.length_take] at hj
    have:=hn j (by omega)
    simpa using this
   ·obtain ⟨j,hj,rfl⟩:=b4.1 a
    simp only [c9] at hj
    rw [c6]
    rcases c5 j with h0 | h0
    ·subst h0;simpa using b
    ·have:=c0.1 hl i (i+j) (by omega) (by omega) (by omega)
     omega
theorem Qi {l:List Int} (hl:wK l) (n:Int):wK (aaK l n)/\ ∀x,x∈aaK l n↔x∈l\/x=n:=by
 obtain ⟨h1,h2,e⟩:=aa9 hl n
 unfold aaK
 split
 ·rename_i hs
  refine ⟨hl,λx=>⟨.inl,?_⟩⟩
  rintro (h | rfl)
  ·exact h
  ·exact List.mem_of_getElem? hs
 ·rename_i hs
  have d: ∀x∈l.drop (Uj l n),n < x:=by
   intro x g
   have i:=e x g
   rcases Int.lt_or_eq_of_le i with h | h
   ·exact h
   ·exfalso
    subst h
    obtain ⟨j,hj,he⟩:=b4.1 g
    simp only [c9] at hj
    rw [c6] at he
    rcases c5 j with h0 | h0
    ·subst h0
     apply hs
     rw [bB (by omega)]
     simpa using he
    ·have k:=c0.1 hl (Uj l n) (Uj l n+j) (by omega) (by omega) (by omega)
     have m:=e l[Uj l n] (by rw [b4];exact ⟨0,by simp;omega,by simp⟩)
     omega
  have c:l=l.take (Uj l n)++l.drop (Uj l n):=(c1 _ _).symm
  constructor
  ·have hp:=hl
   rw [c] at hp
   have hp:=c3.1 hp
   rw [List.append_assoc]
   refine c3.2 ⟨hp.1,?_,λa f b hb=> ?_⟩
   ·simp only [List.singleton_append,cv]
    exact ⟨d,hp.2.1⟩
   ·rcases cl.1 hb with hb | hb
    ·simp at hb;subst hb;exact h2 a f
    ·exact hp.2.2 a f b hb
  ·intro x
   have hm:x∈l↔x∈l.take (Uj l n)\/x∈l.drop (Uj l n):=by rw [<-cl,c1]
   rw [hm]
   simp only [cl,cO]
   constructor
   ·rintro ((h | h) | h)
    ·exact .inl (.inl h)
    ·exact .inr h
    ·exact .inl (.inr h)
   ·rintro ((h | h) | h)
    ·exact .inl (.inl h)
    ·exact .inr h
    ·exact .inl (.inr h)
end Go.AM
namespace Go.AM
open Go.RowKit
def Z4:ca->Int | .int _ n=>n | _=>0
def afG {α:Type} (F:Fence) (n:Nat) (P:bR) (g:Nat) (lb:Array ca) (encs:α->Array ca) (R:List α->α->Prop) (Kp Chg:bx->bx->Prop) (S Sp:List α->Prop) (w:bx):Prop:=
 ∀(l:Nat) (J b:List α->bx->Prop) (W:bx),Below w.heap.size w W->(∀s A B,J s A->Chg A B->J s B)->(∀s A B,b s A->Chg A B->b s B)->
  (∀pre x c,R pre x->J pre c->YieldAt F (n - 1) P l (encs x) c λe a=>(e= .returned (.bool true)/\J (pre++[x]) a/\Kp c a)\/(e= .returned (.bool false)/\b (pre++[x]) a))->
  J [] W->CallsIn F n P g (#[.func (.yield l) #[] #[]]++lb) W λe a=>(∃v,e= .returned v)/\((∃xs,S xs/\J xs a)\/(∃pre,Sp pre/\b pre a))
def I5 {β:Type} (B:Nat) (I:β->bx->Prop):Prop:=
 ∀s W a row,I s W->W.grownBy a row->(∀r,row=some r->(r=B\/r=B+1)/\ ∃o:Obj,W.heap[r]? =some o/\o.isCells=false)->I s a
theorem OwnFrom.two {β:Type} {B:Nat} {I:β->bx->Prop} (h:OwnFrom B I):I5 B I:= λs W a row hs b hr=>h s W a row hs b λr e=>⟨by have:=(hr r e).1;omega,(hr r e).2⟩
theorem I5.putObj {β:Type} {B:Nat} {I:β->bx->Prop} (h:I5 B I) {s:β} {W:bx} {l:Nat} {o:Obj} (o':Obj) (hs:I s W) (a:l=B\/l=B+1) (hl:W.heap[l]? =some o) (b:o.isCells=false):I s (W.putObj l o'):=
 h s W _ (some l) hs (grownBy_putObj' W l o') (λr e=>by cases e;exact ⟨a,o,hl,b⟩)
theorem I5.alloc {β:Type} {B:Nat} {I:β->bx->Prop} (h:I5 B I) {s:β} {W:bx} (o:Obj) (hs:I s W):I s (W.alloc o):=
 h s W _ none hs (World.grownBy_alloc W o none) (λr e=>by cases e)
section
variable {F:Fence} {n:Nat} {P:bR}
theorem Er {α:Type} {g:Operand} {ps:Array Tmp} {assign body:Code} {Q:Exit->Act->bx->Prop} {a:Act} {w:bx}
  (a4:F.round=none) (h1:1<=n) {gf:Nat} {lb:Array ca} (z:a.eval g= .func (.func gf) #[] lb) (Y:F.fn gf) (eg: ∀args w,(callFunc gf args).run P w= .ok (.enter gf args) w)
  {encs:α->Array ca} {Kp Chg:bx->bx->Prop} {S Sp:List α->Prop} (V:afG F (n - 1) P gf lb encs (λ_ _=>True) Kp Chg S Sp w) (X: ∀(A B:bx) (k:Nat) (o:Obj),Chg A B->w.heap.size<=k->A.heap[k]? =some o->o.isCells=false->B.heap[k]? =some o)
  (R: ∀{A B C:bx},Kp A B->Kp B C->Kp A C) (O: ∀(W:bx) (l:Nat) (o o':Obj),w.heap.size<=l->W.heap[l]? =some o->o.isCells=false->o.isWalk=false->Kp W (W.putObj l o')) (a2: ∀x,(encs x).size=ps.size)
  (I:List α->bx->Prop) (L:Code->List α->bx->Prop) (M:I5 w.heap.size I) (y: ∀c,I5 w.heap.size (L c)) (ab: ∀s A B,Chg A B->I s A->I s B) (N: ∀c s A B,Chg A B->L c s A->L c s B) (h0:I [] w) (E:α->Act)
  (r: ∀(l:Nat) (x:α) (W:bx) (K:Act->bx->Prop),K (E x) W->
    assign.wpIn (F.inRound l) (n - 1 - 1) P (Exit.then K (λ_ _ _=>False)) { tmps:=(ps.zip (encs x)).foldl (λt (p,v)=>t.setIfInBounds p v) a.tmps,defers:=[] } W)
  (G: ∀(l:Nat) (pre:List α) (x:α) (W:bx),I pre W->body.wpIn (F.inRound l) (n - 1 - 1) P (ownPostG w.heap.size Kp I L (pre++[x]) W) (E x) W)
  (H: ∀(D:Nat) (xs:List α) (W:bx),w.heap.size<=D->S xs->I xs W->W.heap[D]? =some (.deferred (some []))->Q .normal { a with defers:={ target:= .collected D,args:= #[] }::a.defers } W)
  (J: ∀(D:Nat) (c:Code) (pre:List α) (W:bx),w.heap.size<=D->Sp pre->L c pre W->W.heap[D]? =some (.deferred (some []))->c.wpIn F n P Q { a with defers:={ target:= .collected D,args:= #[] }::a.defers } W):
  (Code.rangeFunc g ps assign body).wpIn F n P Q a w:=by
 refine wpIn_rangeFunc ?_
 intro fn aB
 rw [a4]
 obtain ⟨rec,b⟩: ∃rec:LoopState->Option Code->Loop,rec= λst pe=>{ state:=st,pending:=pe,fn,tmps:=a.tmps,params:=ps,assign,body,defers:=w.heap.size }:=⟨_,rfl⟩
 obtain ⟨u,q⟩: ∃u,(w.alloc (.deferred (some []))).alloc (.loop (rec .ready none))=u:=⟨_,rfl⟩
 have am:u.heap[w.heap.size+1]? =some (.loop (rec .ready none)):=by
  rw [<-q];have:=b5 (w.alloc (.deferred (some []))) (.loop (rec .ready none));rwa [dd] at this
 have ac:u.heap[w.heap.size]? =some (.deferred (some [])):=by
  rw [<-q];exact (Below.heap_alloc _ _ _ (by simp)).trans (b5 w _)
 have Z:I [] u:=by rw [<-q];exact M.alloc _ (M.alloc _ h0)
 have ap:Below w.heap.size w u:=by
  rw [<-q];exact ((Below.refl _ w).alloc (b0 _) _).alloc (by simp) _
 refine ⟨w.heap.size+1,[{ target:= .collected w.heap.size,args:= #[] }],u,{ target:= .fn (.func gf) lb,args:= #[.func (.yield (w.heap.size+1)) #[] #[]] },u,gf,
  #[.func (.yield (w.heap.size+1)) #[] #[]]++lb,u,?_,?_,?_,?_,λ_=>h1,?_⟩
 ·rw [<-q,b];exact run_enterLoop_outer _ _ _ _ _
 ·simp only [resolve,z]
  simp [go_sem]
 ·intro f' T;simp [Target.leads] at T;subst T;exact Y
 ·simp [invoke,go_sem,eg]
 ·
  refine (V (w.heap.size+1)
   (λpre W=>I pre W/\W.heap[w.heap.size+1]? =some (.loop (rec .ready none))/\W.heap[w.heap.size]? =some (.deferred (some [])))
   (λpre W=> ∃c,L c pre W/\W.heap[w.heap.size+1]? =some (.loop (rec .done (some c)))/\W.heap[w.heap.size]? =some (.deferred (some [])))
   u ap
   (λs A B hs z=>⟨ab s A B z hs.1,X A B _ _ z (by omega) hs.2.1 rfl,X A B _ _ z (b0 _) hs.2.2 rfl⟩)
   (λs A B hs z=>by
     obtain ⟨c,hc,hl,hk⟩:=hs
     exact ⟨c,N c s A B z hc,X A B _ _ z (by omega) hl rfl,X A B _ _ z (b0 _) hk rfl⟩)
   ?_ ⟨Z,am,ac⟩).mono ?_
  ·
   rintro pre x W - ⟨hi,hl,hk⟩
   have a1:w.heap.size+1 < W.heap.size:=(bd.1 hl).1
   have hy:=run_yield (P:=P) (args:=encs x) hl (by rw [b];exact a2 x)
   rw [b] at hy
   refine ⟨fn,_,assign,body,hy,roundIn_of_wpIn aB (r _ x W _ ⟨_,run_beginRound hl (by rw [b]),?_⟩)⟩
   have a0:(W.putObj (w.heap.size+1) (.loop { rec .ready none with state:= .busy })).heap[w.heap.size+1]? =some (.loop { rec .ready none with state:= .busy }):=b1 a1
   have aT:(W.putObj (w.heap.size+1) (.loop { rec .ready none with state:= .busy })).heap[w.heap.size]? =some (.deferred (some [])):=(bA (by omega)).trans hk
   have a5:Kp W (W.putObj (w.heap.size+1) (.loop { rec .ready none with state:= .busy })):=O _ _ _ _ (by omega) hl rfl rfl
   refine wpIn_mono (G _ pre x _ (M.putObj _ hi (.inr rfl) hl rfl)) ?_
   have fin: ∀(jump:Option Code) (m:bx),ds w.heap.size (W.putObj (w.heap.size+1) (.loop { rec .ready none with state:= .busy })) m->
     (Instr.endRound (w.heap.size+1) jump).run P m= .ok (.bool jump.isNone) (m.putObj (w.heap.size+1) (.loop (rec (if jump.isNone then .ready else .done) jump)))/\
     m.heap[w.heap.size+1]? =some (.loop { rec .ready none with state:= .busy })/\
     (m.putObj (w.heap.size+1) (.loop (rec (if jump.isNone then .ready else .done) jump))).heap[w.heap.size+1]? =some (.loop (rec (if jump.isNone then .ready else .done) jump))/\
     (m.putObj (w.heap.size+1) (.loop (rec (if jump.isNone then .ready else .done) jump))).heap[w.heap.size]? =some (.deferred (some [])):= λjump m f=>by
    have d:=f.same _ _ (by omega) a0 rfl
    have:=run_endRound (P:=P) jump d
    rw [b] at this ⊢
    exact ⟨this,by rw [b] at d;exact d,b1 (bd.1 d).1,(bA (by omega)).trans (f.same _ _ (b0 _) aT rfl)⟩
   rintro e a3 m hp
   cases e with
   | normal=>
     obtain ⟨f,U,h⟩:=hp
     obtain ⟨hr,d,j,i⟩:=fin none m f
     exact ⟨_,_,hr,.inl ⟨rfl,⟨M.putObj _ h (.inr rfl) d rfl,j,i⟩,R (R a5 U) (O _ _ _ _ (by omega) d rfl rfl)⟩⟩
   | ret=>
     obtain ⟨f,h⟩:=hp
     obtain ⟨hr,d,j,i⟩:=fin (some .ret) m f
     exact ⟨_,_,hr,.inr ⟨rfl,.ret,(y _).putObj _ h (.inr rfl) d rfl,j,i⟩⟩
   | exit id=>
     obtain ⟨f,h⟩:=hp
     obtain ⟨hr,d,j,i⟩:=fin (some (.exit id)) m f
     exact ⟨_,_,hr,.inr ⟨rfl,.exit id,(y _).putObj _ h (.inr rfl) d rfl,j,i⟩⟩
   | goto t=>
     obtain ⟨f,h⟩:=hp
     obtain ⟨hr,d,j,i⟩:=fin (some (.goto t)) m f
     exact ⟨_,_,hr,.inr ⟨rfl,.goto t,(y _).putObj _ h (.inr rfl) d rfl,j,i⟩⟩
   | panic ch=>exact hp.elim
   | outgrown=>exact hp.elim
  ·
   rintro e W2 ⟨⟨v,rfl⟩,(⟨xs,hS,hi,hl,hk⟩ | ⟨pre,ao,c,hi,hl,hk⟩)⟩
   ·exact ⟨none,_,by have:=run_endLoop (P:=P) hl (by rw [b];simp);rw [b] at this;exact this,H _ xs _ (b0 _) hS (M.putObj _ hi (.inr rfl) hl rfl) ((bA (by omega)).trans hk)⟩
   ·exact ⟨some c,_,by have:=run_endLoop (P:=P) hl (by rw [b];simp);rw [b] at this;exact this,J _ c pre _ (b0 _) ao ((y c).putObj _ hi (.inr rfl) hl rfl) ((bA (by omega)).trans hk)⟩
theorem Es {α:Type} {g:Operand} {ps:Array Tmp} {assign body:Code} {Q:Exit->Act->bx->Prop} {a:Act} {w:bx}
  (bm:F.round=none) (h1:1<=n) {gf:Nat} {lb:Array ca} (z:a.eval g= .func (.func gf) #[] lb) (aB:F.fn gf) (eg: ∀args w,(callFunc gf args).run P w= .ok (.enter gf args) w)
  {encs:α->Array ca} {R:List α->α->Prop} {Kp Chg:bx->bx->Prop} {S Sp:List α->Prop} (Z:afG F (n - 1) P gf lb encs R Kp Chg S Sp w) (hC: ∀(A B:bx) (k:Nat) (o:Obj),Chg A B->w.heap.size<=k->A.heap[k]? =some o->o.isCells=false->B.heap[k]? =some o)
  (G: ∀{A B C:bx},Kp A B->Kp B C->Kp A C) (O: ∀(W:bx) (l:Nat) (o o':Obj),w.heap.size<=l->W.heap[l]? =some o->o.isCells=false->o.isWalk=false->Kp W (W.putObj l o')) (bi: ∀x,(encs x).size=ps.size)
  (I:List α->bx->Prop) (M:Code->List α->bx->Prop) (hI:I5 w.heap.size I) (y: ∀c,I5 w.heap.size (M c)) (a0: ∀s A B,Chg A B->I s A->I s B) (N: ∀c s A B,Chg A B->M c s A->M c s B) (h0:I [] w) (Ax:List α->α->Act->bx->Prop) (ap: ∀x a',I5 w.heap.size (λpre W=>Ax pre x a' W))
  (r: ∀(l:Nat) (pre:List α) (x:α) (W:bx) (K:Act->bx->Prop),w.heap.size+2<=W.heap.size->R pre x->I pre W->(∀a' W',Ax pre x a' W'->ds w.heap.size W W'->Kp W W'->K a' W')->
    assign.wpIn (F.inRound l) (n - 1 - 1) P (Exit.then K (λ_ _ _=>False)) { tmps:=(ps.zip (encs x)).foldl (λt (p,v)=>t.setIfInBounds p v) a.tmps,defers:=[] } W)
  (H: ∀(l:Nat) (pre:List α) (x:α) (a':Act) (W:bx),R pre x->Ax pre x a' W->body.wpIn (F.inRound l) (n - 1 - 1) P (ownPostG w.heap.size Kp I M (pre++[x]) W) a' W)
  (J: ∀(D:Nat) (xs:List α) (W:bx),D=w.heap.size->S xs->I xs W->W.heap[D]? =some (.deferred (some []))->Q .normal { a with defers:={ target:= .collected D,args:= #[] }::a.defers } W)
  (L: ∀(D:Nat) (c:Code) (pre:List α) (W:bx),D=w.heap.size->Sp pre->M c pre W->W.heap[D]? =some (.deferred (some []))->c.wpIn F n P Q { a with defers:={ target:= .collected D,args:= #[] }::a.defers } W):
  (Code.rangeFunc g ps assign body).wpIn F n P Q a w:=by
 refine wpIn_rangeFunc ?_
 intro fn a7
 rw [bm]
 obtain ⟨rec,b⟩: ∃rec:LoopState->Option Code->Loop,rec= λst pe=>{ state:=st,pending:=pe,fn,tmps:=a.tmps,params:=ps,assign,body,defers:=w.heap.size }:=⟨_,rfl⟩
 obtain ⟨u,q⟩: ∃u,(w.alloc (.deferred (some []))).alloc (.loop (rec .ready none))=u:=⟨_,rfl⟩
 have a2:u.heap[w.heap.size+1]? =some (.loop (rec .ready none)):=by
  rw [<-q];have:=b5 (w.alloc (.deferred (some []))) (.loop (rec .ready none));rwa [dd] at this
 have a1:u.heap[w.heap.size]? =some (.deferred (some [])):=by
  rw [<-q];exact (Below.heap_alloc _ _ _ (by simp)).trans (b5 w _)
 have aT:I [] u:=by rw [<-q];exact hI.alloc _ (hI.alloc _ h0)
 have a6:Below w.heap.size w u:=by
  rw [<-q];exact ((Below.refl _ w).alloc (b0 _) _).alloc (by simp) _
 refine ⟨w.heap.size+1,[{ target:= .collected w.heap.size,args:= #[] }],u,{ target:= .fn (.func gf) lb,args:= #[.func (.yield (w.heap.size+1)) #[] #[]] },u,gf,
  #[.func (.yield (w.heap.size+1)) #[] #[]]++lb,u,?_,?_,?_,?_,λ_=>h1,?_⟩
 ·rw [<-q,b];exact run_enterLoop_outer _ _ _ _ _
 ·simp only [resolve,z]
  simp [go_sem]
 ·intro f' U;simp [Target.leads] at U;subst U;exact aB
 ·simp [invoke,go_sem,eg]
 ·
  refine (Z (w.heap.size+1)
   (λpre W=>I pre W/\W.heap[w.heap.size+1]? =some (.loop (rec .ready none))/\W.heap[w.heap.size]? =some (.deferred (some [])))
   (λpre W=> ∃c,M c pre W/\W.heap[w.heap.size+1]? =some (.loop (rec .done (some c)))/\W.heap[w.heap.size]? =some (.deferred (some [])))
   u a6
   (λs A B hs z=>⟨a0 s A B z hs.1,hC A B _ _ z (by omega) hs.2.1 rfl,hC A B _ _ z (b0 _) hs.2.2 rfl⟩)
   (λs A B hs z=>by
     obtain ⟨c,hc,hl,hk⟩:=hs
     exact ⟨c,N c s A B z hc,hC A B _ _ z (by omega) hl rfl,hC A B _ _ z (b0 _) hk rfl⟩)
   ?_ ⟨aT,a2,a1⟩).mono ?_
  ·
   rintro pre x W T ⟨hi,hl,hk⟩
   have hy:=run_yield (P:=P) (args:=encs x) hl (by rw [b];exact bi x)
   rw [b] at hy
   refine ⟨fn,_,assign,body,hy,roundIn_of_wpIn a7 (r _ pre x W _ (by have:=(bd.1 hl).1;omega) T hi λa' V a5 X bb=> ?_)⟩
   have E:V.heap[w.heap.size+1]? =some (.loop (rec .ready none)):=X.same _ _ (by omega) hl rfl
   have a9:V.heap[w.heap.size]? =some (.deferred (some [])):=X.same _ _ (b0 _) hk rfl
   refine ⟨_,run_beginRound E (by rw [b]),?_⟩
   have bf:w.heap.size+1 < V.heap.size:=(bd.1 E).1
   have be:(V.putObj (w.heap.size+1) (.loop { rec .ready none with state:= .busy })).heap[w.heap.size+1]? =some (.loop { rec .ready none with state:= .busy }):=b1 bf
   have a8:(V.putObj (w.heap.size+1) (.loop { rec .ready none with state:= .busy })).heap[w.heap.size]? =some (.deferred (some [])):=(bA (by omega)).trans a9
   have br:Kp W (V.putObj (w.heap.size+1) (.loop { rec .ready none with state:= .busy })):=G bb (O _ _ _ _ (by omega) E rfl rfl)
   refine wpIn_mono (H _ pre x a' _ T ((ap x a').putObj _ a5 (.inr rfl) E rfl)) ?_
   have fin: ∀(jump:Option Code) (m:bx),ds w.heap.size (V.putObj (w.heap.size+1) (.loop { rec .ready none with state:= .busy })) m->
     (Instr.endRound (w.heap.size+1) jump).run P m= .ok (.bool jump.isNone) (m.putObj (w.heap.size+1) (.loop (rec (if jump.isNone then .ready else .done) jump)))/\
     m.heap[w.heap.size+1]? =some (.loop { rec .ready none with state:= .busy })/\
     (m.putObj (w.heap.size+1) (.loop (rec (if jump.isNone then .ready else .done) jump))).heap[w.heap.size+1]? =some (.loop (rec (if jump.isNone then .ready else .done) jump))/\
     (m.putObj (w.heap.size+1) (.loop (rec (if jump.isNone then .ready else .done) jump))).heap[w.heap.size]? =some (.deferred (some [])):= λjump m f=>by
    have d:=f.same _ _ (by omega) be rfl
    have:=run_endRound (P:=P) jump d
    rw [b] at this ⊢
    exact ⟨this,by rw [b] at d;exact d,b1 (bd.1 d).1,(bA (by omega)).trans (f.same _ _ (b0 _) a8 rfl)⟩
   rintro e a3 m hp
   cases e with
   | normal=>
     obtain ⟨f,Y,h⟩:=hp
     obtain ⟨hr,d,j,i⟩:=fin none m f
     exact ⟨_,_,hr,.inl ⟨rfl,⟨hI.putObj _ h (.inr rfl) d rfl,j,i⟩,G (G br Y) (O _ _ _ _ (by omega) d rfl rfl)⟩⟩
   | ret=>
     obtain ⟨f,h⟩:=hp
     obtain ⟨hr,d,j,i⟩:=fin (some .ret) m f
     exact ⟨_,_,hr,.inr ⟨rfl,.ret,(y _).putObj _ h (.inr rfl) d rfl,j,i⟩⟩
   | exit id=>
     obtain ⟨f,h⟩:=hp
     obtain ⟨hr,d,j,i⟩:=fin (some (.exit id)) m f
     exact ⟨_,_,hr,.inr ⟨rfl,.exit id,(y _).putObj _ h (.inr rfl) d rfl,j,i⟩⟩
   | goto t=>
     obtain ⟨f,h⟩:=hp
     obtain ⟨hr,d,j,i⟩:=fin (some (.goto t)) m f
     exact ⟨_,_,hr,.inr ⟨rfl,.goto t,(y _).putObj _ h (.inr rfl) d rfl,j,i⟩⟩
   | panic ch=>exact hp.elim
   | outgrown=>exact hp.elim
  ·
   rintro e W2 ⟨⟨v,rfl⟩,(⟨xs,hS,hi,hl,hk⟩ | ⟨pre,a4,c,hi,hl,hk⟩)⟩
   ·exact ⟨none,_,by have:=run_endLoop (P:=P) hl (by rw [b];simp);rw [b] at this;exact this,J _ xs _ rfl hS (hI.putObj _ hi (.inr rfl) hl rfl) ((bA (by omega)).trans hk)⟩
   ·exact ⟨some c,_,by have:=run_endLoop (P:=P) hl (by rw [b];simp);rw [b] at this;exact this,L _ c pre _ rfl a4 ((y c).putObj _ hi (.inr rfl) hl rfl) ((bA (by omega)).trans hk)⟩
end
def gX (w:bx) (P:bR) (d a:ck) (b n:Nat) (f:Int->Option Int):Prop:=
 ∃D:DataW Unit,w.ownsMap P d (plainElem P a) b n D/\Maps.size D=n/\ ∀k,(Maps.has D (.int .i64 k)=(f k).isSome)/\ ∀c,f k=some c->D.atKey (.int .i64 k) (.lit (.int .i64 0))= .lit (.int .i64 c)
theorem GH {H:Type} {w w':bx} {P:bR} {k:ck} {R:ca->Option (DataW H×List MemPlace)} {b n:Nat} {D:DataW H} (h:w.ownsMap P k R b n D) (hb:w'.heap[b]? =w.heap[b]?):w'.ownsMap P k R b n D:=by
 obtain ⟨es,c,h1,h2⟩:=h
 exact ⟨es,c,hb.trans h1,h2⟩
theorem gX.of_block {w w':bx} {P:bR} {c a:ck} {b n:Nat} {f:Int->Option Int} (h:gX w P c a b n f) (hb:w'.heap[b]? =w.heap[b]?):gX w' P c a b n f:=by
 obtain ⟨D,h1,h2⟩:=h
 exact ⟨D,GH h1 hb,h2⟩
theorem gX.below {w w':bx} {P:bR} {d c:ck} {b n a:Nat} {f:Int->Option Int} (h:gX w P d c b n f) (hb:b < a) (hw:Below a w w'):gX w' P d c b n f:=h.of_block (hw.block b hb)
theorem gX.made (w:bx) (P:bR) (a b:ck):gX (w.alloc (.map #[] 0)) P a b w.heap.size 0 (λ_=>none):=
 ⟨_,World.ownsMap_made w P a _,rfl,λk=>⟨rfl,λc h=>by cases h⟩⟩
theorem Wc {α:Type} {p:List α->Prop} (h0:p []) (h1: ∀l x,p l->p (l++[x])) (l:List α):p l:=by
 have: ∀r:List α,p r.reverse:=by
  intro r
  induction r with
  | nil=>exact h0
  | cons x r ih=>rw [List.reverse_cons];exact h1 _ _ ih
 simpa using this l.reverse
theorem acP (k:Int):oC [] k=none:=rfl
theorem Uw:dD []=[]:=rfl
theorem LH (ps:List (Int×Int)) (p:Int×Int) (k:Int):oC (ps++[p]) k=if (oC ps k).isSome then oC ps k else if p.1=k then some p.2 else none:=by
 unfold oC
 rw [List.find?_append]
 cases h:ps.find? λp=>p.1==k with
 | some q=>simp
 | none=>
   simp only [Option.map_none,Option.isSome_none,Bool.false_eq_true,if_false,Option.none_or,List.find?_cons]
   by_cases e:p.1=k
   ·simp [e]
   ·have:(p.1==k)=false:=by simp [e]
    simp [e,this]
theorem BM (ps:List (Int×Int)) (p:Int×Int):dD (ps++[p])=if (dD ps).contains p.1 then dD ps else dD ps++[p.1]:=by
 unfold dD;rw [List.foldl_append];rfl
theorem ui (ps:List (Int×Int)) (k:Int):k∈dD ps↔(oC ps k).isSome=true:=by
 induction ps using Wc generalizing k with
 | h0=>simp [Uw,acP]
 | h1 ps p ih=>
   rw [BM,LH]
   by_cases hc:p.1∈dD ps
   ·have a:=(ih p.1).1 hc
    simp only [c2,hc,if_true]
    rw [ih]
    by_cases e:p.1=k
    ·subst e;simp [a]
    ·by_cases hk:(oC ps k).isSome=true
     ·simp [hk]
     ·simp [hk,e]
   ·have a: ¬(oC ps p.1).isSome=true:= λh=>hc ((ih p.1).2 h)
    simp only [c2,hc,if_false,cl,cO]
    rw [ih]
    by_cases hk:(oC ps k).isSome=true
    ·simp [hk]
    ·by_cases e:p.1=k
     ·simp [hk,e]
     ·simp [hk,e,Ne.symm e]
theorem Fh (ps:List (Int×Int)):(dD ps).length<=ps.length:=by
 induction ps using Wc with
 | h0=>simp [Uw]
 | h1 ps p ih=>
   rw [BM]
   split<;>simp<;>omega
theorem gX.same {w:bx} {P:bR} {c a:ck} {b:Nat} {ps:List (Int×Int)} {p:Int×Int} (h:gX w P c a b (dD ps).length (oC ps)) (hk:(oC ps p.1).isSome=true):gX w P c a b (dD (ps++[p])).length (oC (ps++[p])):=by
 have h1:dD (ps++[p])=dD ps:=by rw [BM];simp [(ui ps p.1).2 hk]
 have h2:oC (ps++[p])=oC ps:=by
  funext k
  rw [LH]
  by_cases e:(oC ps k).isSome=true
  ·simp [e]
  ·have: ¬p.1=k:= λh=>e (h▸hk)
   simp only [e,if_false,this,if_false]
   simp at e
   simp [e]
 rw [h1,h2];exact h
theorem gX.put {w':bx} {P:bR} {g f:ck} {b:Nat} {ps:List (Int×Int)} {p:Int×Int} (hk:(oC ps p.1).isSome=false) {D:DataW Unit} (hm:Maps.IsMap D) (i:Maps.Tidy D) (hs:Maps.size D=(dD ps).length) (hf: ∀k,(Maps.has D (.int .i64 k)=(oC ps k).isSome)/\ ∀c,oC ps k=some c->D.atKey (.int .i64 k) (.lit (.int .i64 0))= .lit (.int .i64 c))
  (h:w'.ownsMap P g (plainElem P f) b ((dD ps).length+1) (D.put (.int .i64 p.1) (.lit (.int .i64 p.2)))):gX w' P g f b (dD (ps++[p])).length (oC (ps++[p])):=by
 have d:p.1∉dD ps:= λh=>by rw [(ui ps p.1).1 h] at hk;cases hk
 have h1:(dD (ps++[p])).length=(dD ps).length+1:=by rw [BM];simp [d]
 rw [h1]
 refine ⟨_,h,?_,λk=> ?_⟩
 ·rw [Maps.size_put i,(hf p.1).1,hk,hs];rfl
 ·rw [LH]
  by_cases e:p.1=k
  ·subst e
   rw [Maps.has_put_same hm (show WideAt.IsKeyLit (.int .i64 p.1) from trivial),Maps.atKey_put_same hm (show WideAt.IsKeyLit (.int .i64 p.1) from trivial)]
   simp only [hk]
   simp
  ·have a:(bO .i64 k)≠ .int .i64 p.1:= λh=>by cases h;exact e rfl
   rw [Maps.has_put_other a,Maps.atKey_put_other a]
   simp only [e,if_false]
   by_cases hl:(oC ps k).isSome=true
   ·simp only [hl,if_true];rw [<-hl];exact hf k
   ·simp only [hl,if_false]
    simp only [Bool.not_eq_true] at hl
    rw [(hf k).1,hl]
    simp
theorem gX.look {w:bx} {P:bR} {t g d:ck} {b n:Nat} {f:Int->Option Int} (h:gX w P g d b n f) (j:P.underlying t=some (.map g d)) (hk:P.underlying g=some (.int .i64)) (he:P.underlying d=some (.int .i64)) (hz:(zeroValue d).run P w= .ok (.int .i64 0) w) {k:Int} (hw:(bO .i64 k).wf=true):
  ∃c,(Instr.lookup t (.map (some b)) (.int .i64 k) true).run P w= .ok (.tuple #[.int .i64 c,.bool (f k).isSome]) w/\ ∀x,f k=some x->c=x:=by
 obtain ⟨D,h1,h2,i⟩:=h
 obtain ⟨v,ps,a,hv⟩:=h1.look_ok (Maps.int_keyed hk) j hz (zd:= .lit (.int .i64 0)) (zp:=[]) (plainElem_int he (by decide)) (Maps.keyOf_int_mk hk hw)
 obtain ⟨c,rfl,hc,l⟩:=plainElem_int_inv he hv
 refine ⟨c,by rw [a,(i k).1],λx m=> ?_⟩
 have:=(i k).2 x m
 have e:D.atKey (.int .i64 k) (.lit (.int .i64 0))= .lit (.int .i64 c):=congrArg Prod.fst hc
 rw [e] at this
 simpa using this
theorem gX.stored {w:bx} {P:bR} {t d c:ck} {b:Nat} {ps:List (Int×Int)} {p:Int×Int} (h:gX w P d c b (dD ps).length (oC ps)) (i:P.underlying t=some (.map d c)) (hk:P.underlying d=some (.int .i64)) (he:P.underlying c=some (.int .i64)) (hl:(oC ps p.1).isSome=false) (hn:ps.length < maxLen)
  (e:(bO .i64 p.1).wf=true) (f:(bO .i64 p.2).wf=true): ∃w',(Instr.mapUpdate t (.map (some b)) (.int .i64 p.1) (.int .i64 p.2)).run P w= .ok () w'/\gX w' P d c b (dD (ps++[p])).length (oC (ps++[p]))/\w.grownBy w' (some b):=by
 obtain ⟨D,h1,h2,g⟩:=h
 obtain ⟨w',a,j,k⟩:=h1.update (Maps.int_keyed hk) i (Nat.lt_of_le_of_lt (Fh ps) hn) (Maps.keyOf_int_mk hk e) (plainElem_int he f)
 exact ⟨w',a,gX.put (p:=p) hl h1.isMap (h1.tidy (Maps.int_keyed hk)) h2 g j,k⟩
theorem gX.len {w:bx} {P:bR} {t c a:ck} {b n:Nat} {f:Int->Option Int} (h:gX w P c a b n f) (d:P.underlying t=some (.map c a)) (ty:ck):(Builtin.len_ #[t] ty #[.map (some b)]).run P w= .ok (.int .i64 n) w:=by
 obtain ⟨D,h1,h2,e⟩:=h
 rw [h1.len d,h2]
theorem gX.lt {w:bx} {P:bR} {c a:ck} {b n:Nat} {f:Int->Option Int} (h:gX w P c a b n f):b < w.heap.size:=by
 obtain ⟨D,h1,h2⟩:=h;exact h1.lt
theorem gX.alloc {w:bx} {P:bR} {c a:ck} {b n:Nat} {f:Int->Option Int} (h:gX w P c a b n f) (o:Obj):gX (w.alloc o) P c a b n f:=by
 obtain ⟨D,h1,h2⟩:=h;exact ⟨D,h1.alloc o,h2⟩
theorem bt {α:Type} {l:List α} {k:Nat} {x:α} (h:l[k]? =some x):l.take (k+1)=l.take k++[x]:=by
 rw [List.take_add_one,h];rfl
theorem UR {w0 w w':bx} {b n:Nat} (hb:Below n w0 w) (a:w.grownBy w' (some b)) (h:n<=b) (hn:n<=w0.heap.size):Below n w0 w':=hb.grown a (Nat.le_trans hn hb.size) λk e=>by cases e;exact h
end Go.AM
namespace Go.AM
open Go.RowKit Go.Lib
def dOf (ns:List Int) (k:Nat):Int:=IntKind.i64.wrap (ns.getD k 0 - (0::ns).getD k 0)
theorem FP (b a:IV->Option (List IV)): ∀(es:List (List IV)) (last:Int) (acc:ByteArray) (r:List IV),sy b a last es acc=some r->
  ∃(ns:List Int) (f:Nat->ByteArray),es=ns.map (λn=>[.int .i64 n])/\f 0=acc/\r=[.str (f ns.length)]/\
   ∀k,k < ns.length-> ∃z q s,b (.int .i64 (IntKind.i64.wrap (ns.getD k 0 - (last::ns).getD k 0)))=some z/\a (nth z 0)=some q/\nth q 0= .str s/\(f k).size+s.size<=140737488355328/\f (k+1)=f k++s
 | [],last,acc,r,h=>by
   simp only [sy,Option.some.injEq] at h
   exact ⟨[],λ_=>acc,rfl,rfl,h.symm,λk hk=>by simp at hk⟩
 | e::es,last,acc,r,h=>by
   by_cases c: ∃n,e=[.int .i64 n]
   ·obtain ⟨n,rfl⟩:=c
    simp only [sy] at h
    obtain ⟨z,hz,h⟩:=cc.1 h
    obtain ⟨q,p,h⟩:=cc.1 h
    split at h
    ·rename_i s hs
     split at h
     ·rename_i hle
      obtain ⟨ns,f,h1,h2,m,o⟩:=FP b a es n (acc++s) r h
      refine ⟨n::ns,λk=>match k with | 0=>acc | k+1=>f k,by rw [h1];rfl,rfl,m,λk hk=> ?_⟩
      cases k with
      | zero=>exact ⟨z,q,s,by simpa using hz,p,hs,hle,h2⟩
      | succ k=>
        obtain ⟨v,t,u,d,g,i,j,l⟩:=o k (by simpa using hk)
        exact ⟨v,t,u,by simpa using d,g,i,j,l⟩
     ·cases h
    ·cases h
   ·exfalso
    unfold sy at h
    split at h
    ·rename_i heq;cases heq
    ·rename_i heq;cases heq;exact c ⟨_,rfl⟩
    ·cases h
theorem Il {b a:IV->Option (List IV)} {x:IV} {r:List IV} (h:KC b a x=some r):
  ∃(ns:List Int) (f:Nat->ByteArray),x= .lst (ns.map λn=>[.int .i64 n])/\ns.length<=2 ^ 40/\f 0=⟨#[]⟩/\r=[.str (f ns.length)]/\
   ∀k,k < ns.length-> ∃z q s,b (.int .i64 (dOf ns k))=some z/\a (nth z 0)=some q/\nth q 0= .str s/\(f k).size+s.size<=140737488355328/\f (k+1)=f k++s:=by
 unfold KC at h
 split at h
 ·split at h
  ·rename_i es hl
   obtain ⟨ns,f,h1,h2,c,d⟩:=FP b a es 0 _ r h
   exact ⟨ns,f,by rw [h1],by rw [h1] at hl;simpa using hl,h2,c,d⟩
  ·cases h
 ·cases h
theorem JQ (a b:ByteArray):strCells (a++b)=strCells a++strCells b:=by
 simp [strCells]
def KpD (n B b:Nat) (w w':bx):Prop:=w'.heap[B]? =w.heap[B]? /\(0 < n->w'.heap[b]? =w.heap[b]?)
theorem KpD.refl (n B b:Nat) (w:bx):KpD n B b w w:=⟨rfl,λ_=>rfl⟩
theorem KpD.trans {n B b:Nat} {w w1 w2:bx} (h:KpD n B b w w1) (k:KpD n B b w1 w2):KpD n B b w w2:=⟨k.1.trans h.1,λx=>(k.2 x).trans (h.2 x)⟩
theorem BdAt.kept {w w':bx} {T e:ck} {b:Nat} {p u:ca} {n:Nat} {bs:List ca} (h:BdAt w T e b p u n bs) {row:Option Nat} (a:w.grownBy w' row) (h1:some b≠row) (h2:u.ownBlock=none\/u.ownBlock≠row):BdAt w' T e b p u n bs:=
 ⟨(a.block b (bd.1 h.heap).1 h1).trans h.heap,h.addr,h.own.kept a h2,h.ne⟩
theorem BdAt.below {w w':bx} {T e:ck} {b:Nat} {p u:ca} {n:Nat} {bs:List ca} (h:BdAt w T e b p u n bs) (hb:Below w.heap.size w w'):BdAt w' T e b p u n bs:=
 h.kept (row:=none) ⟨hb.os,hb.tape,hb.output,hb.size,λk hk _=>hb.block k hk⟩ (by simp) (by cases u.ownBlock<;>simp)
end Go.AM
namespace Go.AM
open Go.RowKit
theorem XQ {w:bx} {ad:Addr} {u:ca} (h:w.cell? (ad.add 0)=some u) (q:Nat):ad.add q=⟨ad.block,ad.off+q,none⟩:=by
 have h0:ad.add 0=ad:=by simp [Addr.add]
 rw [h0] at h
 have hs:ad.spot=none:=by
  unfold World.cell? at h
  split at h
  ·split at h
   ·cases h
   ·rename_i hs;simpa using hs
  ·cases h
 obtain ⟨b,o,s⟩:=ad
 simp only at hs
 subst hs
 by_cases a:q=0
 ·subst a;simp [Addr.add]
 ·simp [Addr.add,a]
theorem Kc {α β:Type} {f:α->Option β}: ∀{l:List α} {r:List β},l.mapM f=some r->r.length=l.length/\ ∀(i:Nat) (x:α),l[i]? =some x-> ∃y,r[i]? =some y/\f x=some y:=by
 intro l r h
 obtain ⟨h1,h2⟩:=fN h
 exact ⟨h1,λi x a=>h2 i x a⟩
theorem QF {w:bx} {ok:Nat->Prop} (hok: ∀b,ok b->b < w.heap.size) {es:List (List IV)} {v:ca} (r:RV w ok (.lst es) v) {sz:Nat} (a:0 < sz) (d: ∀e∈es,e.length=sz):
  ∃(A:Option Addr) (cap b off:Nat),v= .slice A es.length cap/\(0 < es.length->A=some ⟨b,off,none⟩/\b < w.heap.size)/\ ∀(i j:Nat) (e:List IV) (x:IV),es[i]? =some e->e[j]? =some x-> ∃u,w.cell? ⟨b,off+i*sz+j,none⟩=some u/\RV w ok x u:=by
 obtain ⟨A,cap,vs,hv,hr,hc⟩:=Ta hok r a d
 by_cases he:0 < es.length
 ·obtain ⟨ad,l,k⟩:=hc he
  have f:0 < vs.length:=by rw [hr.1];exact Nat.mul_pos he a
  have h0:=k 0 vs[0] (bB f)
  have hp:=XQ h0
  have hb:ad.block < w.heap.size:=by
   obtain ⟨c,T,fr,h1,_⟩:=C2 h0
   rw [mq] at h1
   exact (bd.1 h1).1
  refine ⟨A,cap,ad.block,ad.off,hv,λ_=>⟨?_,hb⟩,λi j e x h1 h2=> ?_⟩
  ·rw [l]
   have:=hp 0
   simp [Addr.add] at this
   rw [this]
  ·obtain ⟨u,hu,g⟩:=hr.2.2 i j e x h1 h2
   exact ⟨u,by rw [<-k _ u hu,hp,Nat.add_assoc],g⟩
 ·refine ⟨A,cap,0,0,hv,λh=>absurd h he,λi j e x h1 _=> ?_⟩
  have:=(bM.1 h1).1
  omega
theorem pX {e:List IV} {p:Int×Int} (h:Ji e=some p): ∃s r,e=[.int .i64 p.1,.int .i64 p.2,.str s,.flt .f64 r]/\(bO .i64 p.1).wf=true/\(bO .i64 p.2).wf=true:=by
 unfold Ji at h
 split at h
 ·split at h
  ·rename_i hw;cases h;exact ⟨_,_,rfl,hw.1,hw.2⟩
  ·cases h
 ·cases h
theorem Mq {f:List IV->Option (Int×Int)} {es:List (List IV)} {ps:List (Int×Int)} (h:es.mapM f=some ps):ps.length=es.length:=(Kc h).1
def strOf:IV->ByteArray | .str s=>s | _=>default
def UH (w:bx) (a:Addr):Nat:=match w.cell? a with | some (.float _ n)=>n | _=>0
def Dh (w:bx) (b off:Nat) (ps:List (Int×Int)) (c:Nat->ByteArray) (a:Nat->Nat):Prop:=
 ∀(j:Nat) (p:Int×Int),ps[j]? =some p->w.cell? ⟨b,off+j*4,none⟩=some (.int .i64 p.1)/\w.cell? ⟨b,off+j*4+1,none⟩=some (.int .i64 p.2)/\w.cell? ⟨b,off+j*4+2,none⟩=some (.string (c j))/\w.cell? ⟨b,off+j*4+3,none⟩=some (.float .f64 (a j))
theorem X4 {w:bx} {ok:Nat->Prop} (hok: ∀b,ok b->b < w.heap.size) {es:List (List IV)} {v:ca} (r:RV w ok (.lst es) v) {ps:List (Int×Int)} (h:es.mapM Ji=some ps):
  ∃(A:Option Addr) (cap b off:Nat) (D:Nat->ByteArray) (g:Nat->Nat),v= .slice A ps.length cap/\(0 < ps.length->A=some ⟨b,off,none⟩)/\(0 < ps.length->b < w.heap.size)/\(∀p∈ps,(bO .i64 p.1).wf=true/\(bO .i64 p.2).wf=true)/\Dh w b off ps D g:=by
 obtain ⟨hl,d⟩:=Kc h
 have hlen: ∀e∈es,e.length=4:= λe he=>by
  obtain ⟨i,hi⟩:=b3.1 he
  obtain ⟨p,_,hp⟩:=d i e hi
  obtain ⟨s,r,rfl,_⟩:=pX hp
  rfl
 obtain ⟨A,cap,b,off,hv,f,hc⟩:=QF hok r (by decide) hlen
 refine ⟨A,cap,b,off,λj=>strOf (((es.getD j []).getD 2 .nilp)),λj=>UH w ⟨b,off+j*4+3,none⟩,by rw [hl];exact hv,λh=>(f (by omega)).1,λh=>(f (by omega)).2,λp hp=> ?_,λj p hj=> ?_⟩
 ·obtain ⟨i,hi⟩:=b3.1 hp
  have a:i < es.length:=by rw [<-hl];exact (bM.1 hi).1
  obtain ⟨C,h1,h2⟩:=d i _ (bB a)
  rw [hi] at h1;cases h1
  obtain ⟨s,r,_,o,q⟩:=pX h2
  exact ⟨o,q⟩
 ·have a:j < es.length:=by rw [<-hl];exact (bM.1 hj).1
  have he:=bB a
  obtain ⟨C,h1,h2⟩:=d j _ he
  rw [hj] at h1;cases h1
  obtain ⟨s,r,t,_⟩:=pX h2
  rw [t] at he
  have c:es.getD j []=[.int .i64 p.1,.int .i64 p.2,.str s,.flt .f64 r]:=by rw [bC,he];rfl
  simp only [c]
  obtain ⟨u0,k,u⟩:=hc j 0 _ _ he rfl
  obtain ⟨u1,l,x⟩:=hc j 1 _ _ he rfl
  obtain ⟨u2,m,y⟩:=hc j 2 _ _ he rfl
  obtain ⟨u3,n,z⟩:=hc j 3 _ _ he rfl
  cases u;cases x;cases y;cases z
  exact ⟨k,l,m,by unfold UH;rw [n]⟩
theorem aaD {w:bx} {ok:Nat->Prop} {d f g:IV} {args:List ca} (h:cP w ok [[d],[f],[g]] args): ∃a b c,args=[a,b,c]/\RV w ok d a/\RV w ok f b/\RV w ok g c:=by
 obtain ⟨hl,hr⟩:=h
 match args,hl with
 | [a,b,c],_=>
   have key: ∀{x:IV} {v:ca},ArgRel w ok [x] v->RV w ok x v:= λh=>by
    rcases h with ⟨y,e,h⟩ | ⟨h,_⟩
    ·cases e;exact h
    ·simp at h
   exact ⟨a,b,c,rfl,key (hr 0 _ _ rfl rfl),key (hr 1 _ _ rfl rfl),key (hr 2 _ _ rfl rfl)⟩
theorem aak {w:bx} {ok:Nat->Prop} {c d:IV} {args:List ca} (h:cP w ok [[c],[d]] args): ∃a b,args=[a,b]/\RV w ok c a/\RV w ok d b:=by
 obtain ⟨hl,hr⟩:=h
 match args,hl with
 | [a,b],_=>
   have key: ∀{x:IV} {v:ca},ArgRel w ok [x] v->RV w ok x v:= λh=>by
    rcases h with ⟨y,e,h⟩ | ⟨h,_⟩
    ·cases e;exact h
    ·simp at h
   exact ⟨a,b,rfl,key (hr 0 _ _ rfl rfl),key (hr 1 _ _ rfl rfl)⟩
theorem Sr {P:bR} {g:dq} (H: ∀(w:bx) (A:Option Addr) (b off cap:Nat) (ps:List (Int×Int)) (t:Nat->ByteArray) (n:Nat->Nat),(0 < ps.length->A=some ⟨b,off,none⟩)->(0 < ps.length->b < w.heap.size)->ps.length<=2 ^ 40->
   (∀p∈ps,(bO .i64 p.1).wf=true/\(bO .i64 p.2).wf=true)->Dh w b off ps t n-> ∀x y:Int,(bO .i64 y).wf=true->
   ek P g #[.slice A ps.length cap,.int .i64 x,.int .i64 y] w λe u=>e= .returned (.bool ((upto (oC ps) (dD ps).length y).contains x))/\Below w.heap.size w u):
  ax P g ⟨.pure,true,[1],0,λl=>match l with | [[d],[f],[i]]=>Lc d f i | _=>none⟩:=by
 have v: ∀d f i r,Lc d f i=some r-> ∃es a b ps,d= .lst es/\f= .int .i64 a/\i= .int .i64 b/\es.length<=2 ^ 40/\(bO .i64 b).wf=true/\es.mapM Ji=some ps/\r=[.bool ((upto (oC ps) (dD ps).length b).contains a)]:=by
  intro d f i r h
  unfold Lc at h
  split at h
  ·split at h
   ·rename_i hw
    obtain ⟨ps,h1,h2⟩:=cd.1 h
    exact ⟨_,_,_,ps,rfl,rfl,rfl,hw.1,hw.2,h1,h2.symm⟩
   ·cases h
  ·cases h
 refine ⟨λW J w ok m args r hk hok c hr=> ?_,λ_ m r hr x z=> ?_⟩
 ·dsimp only at hr ⊢
  split at hr
  ·rename_i d f i
   obtain ⟨es,a,b,ps,rfl,rfl,rfl,j,q,k,rfl⟩:=v _ _ _ _ hr
   obtain ⟨K,L,M,rfl,F,G,I⟩:=aaD c
   cases G;cases I
   obtain ⟨A,cap,C,off,t,n,rfl,D,hb,s,o⟩:=X4 hok F k
   refine (H w A C off cap ps t n D hb (by rw [Mq k];exact j) s o a b q).mono ?_
   rintro e u ⟨rfl,E⟩
   exact ⟨_,rfl,E,.inl ⟨rfl,.bool _⟩⟩
  ·cases hr
 ·dsimp only at hr
  split at hr
  ·obtain ⟨es,a,b,ps,rfl,rfl,rfl,_,_,_,rfl⟩:=v _ _ _ _ hr
   simp at z;subst z;rfl
  ·cases hr
theorem zH {w:bx} {B e:Nat} {v:ca} {zs:List Int} {ok:Nat->Prop} (hr:w.ownsRow B e 1 v zs.length (zs.map λz=> .int .i64 z)) (hok: ∀b,B<=b->b < w.heap.size->ok b):RV w ok (K3 zs) v:=by
 obtain ⟨h0,⟨rfl,h1⟩ | ⟨g,cap,cur,rfl,h1,h2,k,_,m,l⟩⟩:=hr
 ·have:zs=[]:=List.length_eq_zero_iff.1 h1
  subst this
  exact .lst [] none 0 1 (λ_ _=>undef) (by simp) (by simp) (λi j hi=>by simp at hi) (λi j e c h=>by simp at h)
 ·have hlen:(zs.map λz=>[IV.int .i64 z]).length=zs.length:=by simp
  have key:RV w ok (K3 zs) (.slice (some ⟨g,0,none⟩) (zs.map λz=>[IV.int .i64 z]).length cap):=by
   refine .lst _ _ _ 1 (λi _=> .int .i64 (zs.getD i 0)) (by rw [hlen];exact k) (λc hc=> ?_) (λi j hi hj=> ?_) (λi j c x a d=> ?_)
   ·obtain ⟨z,_,rfl⟩:=List.mem_map.1 hc;rfl
   ·rw [hlen] at hi
    refine ⟨_,rfl,hok g h1 (bd.1 h2).1,?_⟩
    obtain rfl:j=0:=by omega
    rw [dH,iM h2]
    have f:(cur.toList.take (zs.length*1))[i]? =some (.int .i64 zs[i]):=by rw [l];simp [hi]
    rw [List.getElem?_take_of_lt (by omega)] at f
    simpa [bC,hi] using f
   ·rw [List.getElem?_map] at a
    cases hz:zs[i]? with
    | none=>rw [hz] at a;cases a
    | some z=>
      rw [hz] at a;cases a
      cases j with
      | zero=>cases d;simp only [bC,hz,c8];exact .int _ _
      | succ j=>simp at d
  rw [hlen] at key
  exact key
def adB (ob:Nat->Bool) (ps:List (Int×Int)) (k:Nat):Prop:= ∀j,j < k->ob j=true/\ ∀p q,0 < j->ps[j - 1]? =some p->ps[j]? =some q->p.1 < q.1
theorem Dt (ob:Nat->Bool): ∀(ps:List (Int×Int)) (i:Nat),A4 ob ps i=true↔ ∀j,j < ps.length->ob (i+j)=true/\ ∀p q,0 < j->ps[j - 1]? =some p->ps[j]? =some q->p.1 < q.1
 | [],i=>by simp [A4]
 | [p],i=>by
   simp only [A4,List.length_singleton]
   constructor
   ·intro h j hj
    obtain rfl:j=0:=by omega
    exact ⟨by simpa using h,λp q h0=>by omega⟩
   ·intro h
    simpa using (h 0 (by omega)).1
 | p::q::l,i=>by
   simp only [A4,Bool.and_eq_true,decide_eq_true_eq]
   rw [Dt ob (q::l) (i+1)]
   constructor
   ·rintro ⟨h1,h2,f⟩ j hj
    cases j with
    | zero=>exact ⟨by simpa using h1,λp q h0=>by omega⟩
    | succ j=>
      obtain ⟨d,e⟩:=f j (by simpa using hj)
      refine ⟨by rw [show i+(j+1)=i+1+j by omega];exact d,λa c _ b hc=> ?_⟩
      cases j with
      | zero=>simp at b hc;subst b;subst hc;exact h2
      | succ j=>exact e a c (by omega) (by simpa using b) (by simpa using hc)
   ·intro h
    refine ⟨by simpa using (h 0 (by simp)).1,(h 1 (by simp)).2 p q (by omega) rfl rfl,λj hj=> ?_⟩
    obtain ⟨d,e⟩:=h (j+1) (by simpa using hj)
    refine ⟨by rw [show i+1+j=i+(j+1) by omega];exact d,λa c h0 b hc=> ?_⟩
    refine e a c (by omega) ?_ (by simpa using hc)
    cases j with
    | zero=>omega
    | succ j=>simpa using b
theorem Be {ob:Nat->Bool} {ps:List (Int×Int)}:A4 ob ps 0=true↔adB ob ps ps.length:=by
 rw [Dt]
 simp only [Nat.zero_add]
 rfl
end Go.AM
namespace Go.AM
open Go.RowKit
theorem aaB {w:bx} {ok:Nat->Prop} (hok: ∀b,ok b->b < w.heap.size) {es:List (List IV)} {v:ca} (r:RV w ok (.lst es) v) {ps:List (Int×Int)} (h:es.mapM Ji=some ps):
  ∃(A:Option Addr) (cap b off:Nat) (o:Nat->ByteArray) (l:Nat->Nat),v= .slice A ps.length cap/\(0 < ps.length->A=some ⟨b,off,none⟩)/\(0 < ps.length->b < w.heap.size)/\(∀p∈ps,(bO .i64 p.1).wf=true/\(bO .i64 p.2).wf=true)/\Dh w b off ps o l/\
   ∀(j:Nat) (p:Int×Int),ps[j]? =some p->es[j]? =some [.int .i64 p.1,.int .i64 p.2,.str (o j),.flt .f64 (canF .f64 (l j))]:=by
 obtain ⟨hl,d⟩:=Kc h
 have hlen: ∀e∈es,e.length=4:= λe he=>by
  obtain ⟨i,hi⟩:=b3.1 he
  obtain ⟨p,_,hp⟩:=d i e hi
  obtain ⟨s,r,rfl,_⟩:=pX hp
  rfl
 obtain ⟨A,cap,b,off,hv,m,hc⟩:=QF hok r (by decide) hlen
 refine ⟨A,cap,b,off,λj=>strOf (((es.getD j []).getD 2 .nilp)),λj=>UH w ⟨b,off+j*4+3,none⟩,by rw [hl];exact hv,λh=>(m (by omega)).1,λh=>(m (by omega)).2,λp hp=> ?_,λj p hj=> ?_,λj p hj=> ?_⟩
 ·obtain ⟨i,hi⟩:=b3.1 hp
  have c:i < es.length:=by rw [<-hl];exact (bM.1 hi).1
  obtain ⟨n,h1,h2⟩:=d i _ (bB c)
  rw [hi] at h1;cases h1
  obtain ⟨s,r,_,x,y⟩:=pX h2
  exact ⟨x,y⟩
 ·have c:j < es.length:=by rw [<-hl];exact (bM.1 hj).1
  have he:=bB c
  obtain ⟨n,h1,h2⟩:=d j _ he
  rw [hj] at h1;cases h1
  obtain ⟨s,r,g,_⟩:=pX h2
  rw [g] at he
  have a:es.getD j []=[.int .i64 p.1,.int .i64 p.2,.str s,.flt .f64 r]:=by rw [bC,he];rfl
  simp only [a]
  obtain ⟨u0,q,z⟩:=hc j 0 _ _ he rfl
  obtain ⟨u1,t,C⟩:=hc j 1 _ _ he rfl
  obtain ⟨u2,u,D⟩:=hc j 2 _ _ he rfl
  obtain ⟨u3,f,k⟩:=hc j 3 _ _ he rfl
  cases z;cases C;cases D;cases k
  exact ⟨q,t,u,by unfold UH;rw [f]⟩
 ·have c:j < es.length:=by rw [<-hl];exact (bM.1 hj).1
  have he:=bB c
  obtain ⟨n,h1,h2⟩:=d j _ he
  rw [hj] at h1;cases h1
  obtain ⟨s,r,g,_⟩:=pX h2
  rw [g] at he
  have a:es.getD j []=[.int .i64 p.1,.int .i64 p.2,.str s,.flt .f64 r]:=by rw [bC,he];rfl
  simp only [a]
  obtain ⟨u3,f,k⟩:=hc j 3 _ _ he rfl
  cases k
  unfold UH
  rw [f]
  exact he
theorem aaO {w:bx} {ok:Nat->Prop} {b:IV} {args:List ca} (h:cP w ok [[b]] args): ∃a,args=[a]/\RV w ok b a:=by
 obtain ⟨hl,hr⟩:=h
 match args,hl with
 | [a],_=>
   rcases hr 0 _ _ rfl rfl with ⟨y,e,h⟩ | ⟨h,_⟩
   ·cases e;exact ⟨a,rfl,h⟩
   ·simp at h
theorem ZY {O:List (List IV)->Option (List IV)} {e:List IV} {b:Bool} (h:XP O e=some b):O [e]=some [.bool b]:=by
 unfold XP at h
 split at h
 ·rename_i c hc;cases h;exact hc
 ·cases h
theorem YQ {P:bR} {one:dq} {l:Bool} {O:List (List IV)->Option (List IV)} (j:ax P one ⟨.pure,l,[1],0,O⟩) (p:Int×Int) (s:ByteArray) (f:Nat) (b:Bool) (h:O [[.int .i64 p.1,.int .i64 p.2,.str s,.flt .f64 (canF .f64 f)]]=some [.bool b]) (W:bx):
  ek P one #[.agg #[.int .i64 p.1,.int .i64 p.2,.string s,.float .f64 f]] W λe d=>e= .returned (.bool b)/\Below W.heap.size W d:=by
 refine (j.1 W (λ_=>False) W (λ_=>False) [[.int .i64 p.1,.int .i64 p.2,.str s,.flt .f64 (canF .f64 f)]] [.agg #[.int .i64 p.1,.int .i64 p.2,.string s,.float .f64 f]] _ ?_ (λb hb=>hb.elim) ?_ h).mono ?_
 ·exact Keeps.refl _ _
 ·refine ⟨rfl,λi c v hc hv=> ?_⟩
  match i,hc,hv with
  | 0,hc,hv=>
    cases hc;cases hv
    refine .inr ⟨by simp,_,rfl,rfl,λi x u a hu=> ?_⟩
    match i,a,hu with
    | 0,a,hu=>cases a;cases hu;exact .int _ _
    | 1,a,hu=>cases a;cases hu;exact .int _ _
    | 2,a,hu=>cases a;cases hu;exact .str _
    | 3,a,hu=>cases a;cases hu;exact .flt _ _
    | (k+4),a,_=>simp at a
  | (k+1),hc,_=>simp at hc
 ·rintro e d ⟨v,rfl,g,(⟨_,hv⟩ | ⟨h2,_⟩)⟩
  ·have:RV d (Cw W (λ_=>False) d) (.bool b) v:=hv
   cases this
   exact ⟨rfl,g⟩
  ·simp at h2
theorem Wn {P:bR} {g one:dq} {K:Bool} {O:List (List IV)->Option (List IV)} (I:ax P one ⟨.pure,K,[1],0,O⟩)
  (H: ∀(w:bx) (A:Option Addr) (b off cap:Nat) (ps:List (Int×Int)) (q:Nat->ByteArray) (o:Nat->Nat) (ob:Nat->Bool),(0 < ps.length->A=some ⟨b,off,none⟩)->(0 < ps.length->b < w.heap.size)->ps.length<=2 ^ 40->
    (∀p∈ps,(bO .i64 p.1).wf=true/\(bO .i64 p.2).wf=true)->Dh w b off ps q o->
    (∀(j:Nat) (p:Int×Int) (W:bx),ps[j]? =some p->ek P one #[.agg #[.int .i64 p.1,.int .i64 p.2,.string (q j),.float .f64 (o j)]] W λe n=>e= .returned (.bool (ob j))/\Below W.heap.size W n)->
    ek P g #[.slice A ps.length cap] w λe n=>e= .returned (.bool (zb ob ps))/\Below w.heap.size w n):
  ax P g ⟨.pure,true,[1],0,λl=>match l with | [[k]]=>ZI O k | _=>none⟩:=by
 have C: ∀k r,ZI O k=some r-> ∃es ps bs,k= .lst es/\es.length<=2 ^ 40/\es.mapM Ji=some ps/\es.mapM (XP O)=some bs/\r=[.bool (zb (λi=>bs.getD i false) ps)]:=by
  intro k r h
  unfold ZI at h
  split at h
  ·split at h
   ·rename_i hw
    obtain ⟨ps,h1,h2⟩:=cc.1 h
    obtain ⟨bs,t,u⟩:=cd.1 h2
    exact ⟨_,ps,bs,rfl,hw,h1,t,u.symm⟩
   ·cases h
  ·cases h
 refine ⟨λW L w ok s args r hk hok d hr=> ?_,λ_ s r hr x D=> ?_⟩
 ·dsimp only at hr ⊢
  split at hr
  ·rename_i k
   obtain ⟨es,ps,bs,rfl,a,f,m,rfl⟩:=C _ _ hr
   obtain ⟨M,rfl,J⟩:=aaO d
   obtain ⟨A,cap,E,off,q,o,rfl,F,hb,z,v,y⟩:=aaB hok J f
   refine (H w A E off cap ps q o (λi=>bs.getD i false) F hb (by rw [Mq f];exact a) z v λj p W hj=> ?_).mono ?_
   ·have he:=y j p hj
    obtain ⟨c,h1,h2⟩:=(Kc m).2 j _ he
    have t:=ZY h2
    have u:bs.getD j false=c:=by rw [bC,h1];rfl
    rw [u]
    exact YQ I p _ _ c t W
   ·rintro e n ⟨rfl,G⟩
    exact ⟨_,rfl,G,.inl ⟨rfl,.bool _⟩⟩
  ·cases hr
 ·dsimp only at hr
  split at hr
  ·obtain ⟨es,ps,bs,rfl,a,f,m,rfl⟩:=C _ _ hr
   simp only [cO] at D;subst D;rfl
  ·cases hr
end Go.AM
namespace Go.AM
open Go.RowKit
structure DeleteWalks (P:bR) (g:dq) (t:ck) (sz:Nat):Prop where
 same: ∀(w:bx) (A:Option Addr) (n c i:Nat),i<=n->n<=c->ek P g #[.slice A n c,.int .i64 i,.int .i64 i] w λe w'=>e= .returned (.slice A n c)/\w'=w
 cut: ∀(w:bx) (b off n c i j:Nat),i < j->j<=n->n<=c->n<=2 ^ 40-> ∀(w1 w2:bx),
  (Builtin.append_ #[t,t] t #[.slice (some ⟨b,off,none⟩) i c,.slice (if c=j then some ⟨b,off,none⟩ else some ⟨b,off+j*sz,none⟩) (n - j) (c - j)]).run P w.drew= .ok (.slice (some ⟨b,off,none⟩) (i+(n - j)) c) w1->
  (∀ty,(Builtin.clear_ #[t] ty #[.slice (some ⟨b,off+(i+(n - j))*sz,none⟩) (n - (i+(n - j))) (c - (i+(n - j)))]).run P w1= .ok (.tuple #[]) w2)->
  ek P g #[.slice (some ⟨b,off,none⟩) n c,.int .i64 i,.int .i64 j] w λe w'=>e= .returned (.slice (some ⟨b,off,none⟩) (i+(n - j)) c)/\w'=w2
end Go.AM
namespace Go.AM
open Go.RowKit
theorem DY {F:Fence} {n:Nat} {P:bR} (w:bx) {ops:Array Oper} {rest:List Oper} {o:Oper} {a:Act} {Q:Exit->Act->bx->Prop}
  (E:o.guard=none) (s x:Operand) (t:ck) (hop:o.op=Op.call { callee:=Callee.builtin Builtin.append,args:= #[s,x],argTypes:= #[t,t] })
  (base:Nat) (e:ck) (i:TypeInfo) (z:ca) (size bytes:Nat) (h1:P.underlying t=some (.slice e)) (h2:P.info? e=some i) (q:i.zero=some z) (r:i.size=size) (y:i.bytes=bytes) (A:z.cells.size=size) (C:0 < size)
  (v:ca) (k:Nat) (xs:List ca) (hs:a.eval s=v) (b:w.ownsRow base e size v k xs) (ad:Addr) (m c:Nat) (news:List ca) (G:a.eval x= .slice (some ad) m c) (hn:news.length=m*size)
  (hc: ∀j u,news[j]? =some u->w.cell? (ad.add j)=some u) (f: ∀u∈news,u.oneCell'=true) (l:k+m<=maxLen) (b2:(k+m)*bytes<=140737488355328) (p:base<=w.heap.size)
  (D: ∀v' w',w'.ownsRow base e size v' (k+m) (xs++news)->w.grownBy w' v.ownBlock->(v'.ownBlock=v.ownBlock\/v'.ownBlock=some w.heap.size)->wpListIn F n P ops Q rest (a.put o.dst v') w'):
  wpListIn F n P ops Q (o::rest) a w:=by
 refine wpListIn_plain E λK g=> ?_
 obtain ⟨v',w',d,H,I,L,J⟩:=run_append_own_at (P:=P) w base t o.type e i z size bytes h1 h2 q r y A C v k xs b ad m c news hn hc f l b2 p
 unfold Oper.wpIn
 refine ⟨?_,?_⟩
 ·simp [Oper.about,hop,resolve,Target.leads,Sem.run_pure]
 ·rw [Oper.semAt_plain F _ _ (by rw [hop];intro c h;cases h)]
  simp [execOp,hop,resolve,invoke,builtin,hs,G,d,Result.andThen]
  exact g _ _ (D v' w' H I J)
def Kp3 (b c a:Nat) (A B:bx):Prop:=B.heap[b]? =A.heap[b]? /\B.heap[c]? =A.heap[c]? /\B.heap[a]? =A.heap[a]?
theorem Kp3.trans {b c a:Nat} {A B C:bx} (h:Kp3 b c a A B) (k:Kp3 b c a B C):Kp3 b c a A C:=⟨k.1.trans h.1,k.2.1.trans h.2.1,k.2.2.trans h.2.2⟩
theorem RN {W:bx} {base e size n r:Nat} {v:ca} {xs:List ca} {o:Obj} (h:W.ownsRow base e size v n xs) (hr:W.heap[r]? =some o) (a:o.isCells=false):v.ownBlock≠some r:=by
 rcases h.2 with ⟨rfl,_⟩ | ⟨g,cap,cur,rfl,h1,h2,_⟩
 ·simp [Value.ownBlock]
 ·intro e
  simp only [Value.ownBlock,Option.some.injEq] at e
  subst e
  rw [h2] at hr;cases hr
  cases a
theorem vq {A B:bx} (h:Below A.heap.size A B):KeepsOthers A B:=⟨h.size,λk o hk _=>(h.block k (bd.1 hk).1).trans hk⟩
theorem QI {A B:bx} {base e size n:Nat} {v:ca} {xs:List ca} (h:A.ownsRow base e size v n xs) (b:Below A.heap.size A B):B.ownsRow base e size v n xs:=by
 refine ⟨h.1,?_⟩
 rcases h.2 with h0 | ⟨g,cap,cur,rfl,h1,h2,a⟩
 ·exact .inl h0
 ·exact .inr ⟨g,cap,cur,rfl,h1,(b.block g (bd.1 h2).1).trans h2,a⟩
def Qw (W:bx) (B:Nat) (o:Option (List Int)) (a:ca) (b:Bool):Prop:=
 match o with
 | none=>a= .slice none 0 0/\b=false
 | some l=>b=true/\W.ownsRow B 3 1 a l.length (l.map (Value.int .i64))
end Go.AM
namespace Go.AM
open Go.RowKit Go.Proofs
def aih (P:bR) (a:dq):Prop:= ∀(W:bx) (B:Nat) (v:ca) (zs:List Int) (x:Int),W.ownsRow B 3 1 v zs.length (zs.map (Value.int .i64))->zs.length<=100000->ek P a #[v,.int .i64 x] W λe b=>e= .returned (.bool (zs.contains x))/\Below W.heap.size W b
theorem WS {P:bR} {g:dq} {l:Bool} {K:List (List IV)->Option (List IV)} (j:ax P g ⟨.pure,l,[1],0,K⟩) (h: ∀(zs:List Int) (x:Int),zs.length<=100000->K [[K3 zs],[.int .i64 x]]=some [.bool (zs.contains x)]):aih P g:=by
 intro W B v zs x a hl
 have hr:RV W (λb=>B<=b/\b < W.heap.size) (K3 zs) v:=zH a λb h1 h2=>⟨h1,h2⟩
 refine (j.1 W (λb=>B<=b/\b < W.heap.size) W (λb=>B<=b/\b < W.heap.size) [[K3 zs],[.int .i64 x]] [v,.int .i64 x] _ (Keeps.refl _ _) (λb hb=>hb.2) ?_ (h zs x hl)).mono ?_
 ·refine ⟨rfl,λi c u hc hu=> ?_⟩
  match i,hc,hu with
  | 0,hc,hu=>cases hc;cases hu;exact .inl ⟨_,rfl,hr⟩
  | 1,hc,hu=>cases hc;cases hu;exact .inl ⟨_,rfl,.int _ _⟩
  | (k+2),hc,_=>simp at hc
 ·rintro e d ⟨u,rfl,f,(⟨_,hv⟩ | ⟨h2,_⟩)⟩
  ·have:RV d (Cw W (λb=>B<=b/\b < W.heap.size) d) (.bool (zs.contains x)) u:=hv
   cases this
   exact ⟨rfl,f⟩
  ·simp at h2
theorem TV {P:bR} {g:dq} (H: ∀(w:bx) (A:Option Addr) (b off cap:Nat) (ps:List (Int×Int)) (q:Nat->ByteArray) (m:Nat->Nat),(0 < ps.length->A=some ⟨b,off,none⟩)->(0 < ps.length->b < w.heap.size)->ps.length<=50000->
   (∀p∈ps,(bO .i64 p.1).wf=true/\(bO .i64 p.2).wf=true)->Dh w b off ps q m-> ∀c:Int,(bO .i64 c).wf=true->
   ek P g #[.slice A ps.length cap,.int .i64 c] w λe j=> ∃s k,e= .returned (.tuple #[s,.bool k])/\Below w.heap.size w j/\Qw j w.heap.size (vZ (oC ps) (dD ps).length c) s k):
  ax P g ⟨.pure,false,[1,1],0,λl=>match l with | [[u],[v]]=>ab0 u v | _=>none⟩:=by
 refine ⟨λW E w ok x args r hk hok f hr=> ?_,λh=>(by cases h)⟩
 dsimp only at hr ⊢
 split at hr
 ·rename_i u v
  obtain ⟨F,G,rfl,C,D⟩:=aak f
  unfold ab0 at hr
  split at hr
  ·rename_i es c
   split at hr
   ·rename_i d
    obtain ⟨ps,h1,rfl⟩:=cd.1 hr
    obtain ⟨A,cap,b,off,q,m,rfl,y,hb,o,n⟩:=X4 hok C h1
    cases D
    refine (H w A b off cap ps q m y hb (by rw [Mq h1];exact d.1) o n c d.2).mono ?_
    rintro e j ⟨s,k,rfl,z,a⟩
    refine ⟨_,rfl,z,?_⟩
    cases t:vZ (oC ps) (dD ps).length c with
    | none=>
      rw [t] at a
      obtain ⟨rfl,rfl⟩:=a
      exact ⟨_,rfl,.inl ⟨rfl,zH (zs:=[]) (World.ownsRow_nil j w.heap.size 3 1) λb h1 h2=> .inr ⟨h1,h2⟩⟩,.inl ⟨rfl,.bool _⟩,trivial⟩
    | some l=>
      rw [t] at a
      obtain ⟨rfl,i⟩:=a
      exact ⟨_,rfl,.inl ⟨rfl,zH i λb h1 h2=> .inr ⟨h1,h2⟩⟩,.inl ⟨rfl,.bool _⟩,trivial⟩
   ·cases hr
  ·cases hr
 ·cases hr
end Go.AM
