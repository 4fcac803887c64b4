/- What the functions that are walked by hand hand back, on pure values. -/
import Derived.Test.YtgoenohknokcmaaGreatAa
import Derived.Below
import Derived.Shelf.Spec.SlicesInsert
import Derived.Sort.LotA
import Derived.Test.YtgoenohknokcmaaGreatAd
import Derived.RangeFuncBox
import Derived.RangeFuncLeaves
import Derived.RangeFuncWrites
import Derived.Shelf.Abstract
import Derived.WalkKit
import Derived.OwnWalkIn
import Derived.TacticsInMore
import Derived.LoopNIn
import Derived.LoopIn
import Derived.Maps.OwnIn
set_option linter.unusedVariables false
namespace Go.AM
open Go.RowKit
def lD (ps:List (Int×Int)) (k:Int):Option Int:=(ps.find? fun p=>p.1==k).map (·.2)
def cA (ps:List (Int×Int)):List Int:=ps.foldl (fun l p=>if l.contains p.1 then l else l++[p.1]) []
def upto (f:Int->Option Int):Nat->Int->List Int
 | 0,_=>[]
 | n+1,x=>match f x with | none=>[] | some y=>y::upto f n y
def EN:List IV->Option (Int×Int)
 | [.int .i64 c,.int .i64 p,.str _,.flt .f64 _]=>if (Lit.int .i64 c).wf=true/\(Lit.int .i64 p).wf=true then some (c,p) else none
 | _=>none
def Hn (x a b:IV):Option (List IV):=
 match x,a,b with
 | .lst es,.int .i64 a,.int .i64 b=>if es.length<=2 ^ 40/\(Lit.int .i64 b).wf=true then (es.mapM EN).map fun ps=>[.bool ((upto (lD ps) (cA ps).length b).contains a)] else none
 | _,_,_=>none
structure StepV where
 (i0 i1 i2 i3:Int) (s4:ByteArray) (f5:Nat) (b6 b7:Bool) (i8 i9:Int) (s10:ByteArray) (f11:Nat)
 deriving Inhabited
def StepV.vals (s:StepV):Array Value:= #[.int .i64 s.i0,.int .i64 s.i1,.int .i64 s.i2,.int .i64 s.i3,.string s.s4,.float .f64 s.f5,.bool s.b6,.bool s.b7,.int .i64 s.i8,.int .i64 s.i9,.string s.s10,.float .f64 s.f11]
def StepV.ivs (s:StepV):List IV:=[.int .i64 s.i0,.int .i64 s.i1,.int .i64 s.i2,.int .i64 s.i3,.str s.s4,.flt .f64 s.f5,.bool s.b6,.bool s.b7,.int .i64 s.i8,.int .i64 s.i9,.str s.s10,.flt .f64 s.f11]
def Qx:List IV->Option StepV
 | [.int .i64 i0,.int .i64 i1,.int .i64 i2,.int .i64 i3,.str s4,.flt .f64 f5,.bool b6,.bool b7,.int .i64 i8,.int .i64 i9,.str s10,.flt .f64 f11]=>some ⟨i0,i1,i2,i3,s4,f5,b6,b7,i8,i9,s10,f11⟩
 | _=>none
def pI (U:List (List IV)->Option (List IV)):List StepV->IV->Option IV
 | [],x=>some x
 | s::ss,x=>(pI U ss x).bind fun l=>match U [[l],s.ivs] with | some [.lst y]=>some (.lst y) | _=>none
def TG (U:List (List IV)->Option (List IV)) (x s:IV):Option (List IV):=
 match x,s with
 | .lst l,.lst es=>if es.length<=2 ^ 40 then (es.mapM Qx).bind fun ss=>(pI U ss (.lst l)).map fun y=>[y] else none
 | _,_=>none
def Bf (x i j:IV):Option (List IV):=
 match x,i,j with
 | .lst es,.int .i64 i,.int .i64 j=>if 0<=i/\i<=j/\j<=(es.length:Int)/\es.length<=2 ^ 40 then some [.lst (es.take i.toNat++es.drop j.toNat)] else none
 | _,_,_=>none
def CV (K:List Int) (k:Int):List Int:=if K.contains k then K else K++[k]
structure MvAt where
 (c r par ch:Int) (nm:ByteArray) (rk:Nat)
def O2 (l:List Int) (n:Int):Nat:=(l.findIdx? fun x=> !decide (x < n)).getD l.length
def Wc (l:List Int) (n:Int):List Int:=if l[O2 l n]? =some n then l else l.take (O2 l n)++[n]++l.drop (O2 l n)
def Gq (l:List Int):IV:= .lst (l.map fun z=>[.int .i64 z])
def vN (ob:Nat->Bool):List (Int×Int)->Nat->Bool
 | [],_=>true
 | [_],i=>ob i
 | p::q::l,i=>ob i&&(decide (p.1 < q.1)&&vN ob (q::l) (i+1))
def vd (ob:Nat->Bool) (ps:List (Int×Int)):Bool:=
 decide (ps.length<=2000)&&(vN ob ps 0&&(cA ps).all fun c=> !(upto (lD ps) (cA ps).length c).contains c)
def S4 (O:List (List IV)->Option (List IV)) (e:List IV):Option Bool:=match O [e] with | some [.bool b]=>some b | _=>none
def UJ (O:List (List IV)->Option (List IV)) (x:IV):Option (List IV):=
 match x with
 | .lst es=>if es.length<=2 ^ 40 then (es.mapM EN).bind fun ps=>(es.mapM (S4 O)).map fun bs=>[.bool (vd (fun i=>bs.getD i false) ps)] else none
 | _=>none
end Go.AM
set_option linter.unusedSimpArgs false
namespace Go.AM
open Go.Sort
section
variable {α:Type} (lt:α->α->Bool)
def ins (x:α):List α->List α
 | []=>[x]
 | y::l=>if lt x y=true then x::y::l else y::ins x l
def mg (L R:List α):List α:=R.foldl (fun acc x=>ins lt x acc) L
def adu (l:List α):List α:=mg lt [] l
end
variable {α:Type} {lt:α->α->Bool}
end Go.AM
namespace Go.AM
structure Rv where
 ch:Int
 par:Int
 nm:ByteArray
 rk:Nat
 ok:rk < 2 ^ 64
instance:Inhabited Rv:=⟨⟨0,0,default,0,by decide⟩⟩
def rvI (r:Rv):List IV:=[.int .i64 r.ch,.int .i64 r.par,.str r.nm,.flt .f64 r.rk]
def adW:List IV->Option Rv
 | [.int .i64 c,.int .i64 p,.str s,.flt .f64 r]=>if h:r < 2 ^ 64 then some ⟨c,p,s,r,h⟩ else none
 | _=>none
def Xp (w:Nat):Nat:=if 2047*2 ^ 52 < w % 2 ^ 63 then 9221120237041090560 else w
def XL (w:Nat):Nat:=if 2 ^ 63<=Xp w then 2 ^ 64 - 1 - Xp w else Xp w+2 ^ 63
def abU (x y:Rv):Bool:=decide (XL x.rk < XL y.rk)||decide (XL x.rk=XL y.rk)&&decide (x.ch < y.ch)
def aeN (kg:Nat) (x f:IV):Option (List IV):=
 match x,f with
 | .lst es,.clo (.func g) []=>if g=kg/\es.length<=2 ^ 32 then (es.mapM adW).map fun l=>[.lst ((adu abU l).map rvI)] else none
 | _,_=>none
def qL:List Int->List Int->Option (List Int)
 | out,[]=>some out
 | out,x::l=>if out.contains x then none else qL (out++[x]) l
def rS (f:Int->Option Int) (N:Nat) (c:Int):Option (List Int):=
 match qL [c] (upto f N c) with
 | none=>none
 | some out=>if out.getLast?=some 0/\(f 0).isNone=true then some out else none
theorem H5: ∀(l m out:List Int),qL out l=none->qL out (l++m)=none
 | [],m,out,h=>by cases h
 | x::l,m,out,h=>by
   unfold qL at h
   simp only [List.cons_append]
   unfold qL
   split
   ·rfl
   ·rename_i hc
    rw [if_neg hc] at h
    exact H5 l m _ h
theorem zP: ∀(l out:List Int) (x:Int),qL out (l++[x])=(qL out l).bind fun r=>if r.contains x then none else some (r++[x])
 | [],out,x=>by
   simp only [List.nil_append]
   unfold qL qL
   rfl
 | y::l,out,x=>by
   simp only [List.cons_append]
   unfold qL
   split
   ·rfl
   ·exact zP l _ x
def Xe (x c:IV):Option (List IV):=
 match x,c with
 | .lst es,.int .i64 c=>if es.length<=50000/\(Lit.int .i64 c).wf=true then (es.mapM EN).map fun ps=>match rS (lD ps) (cA ps).length c with | some l=>[Gq l,.bool true] | none=>[.lst [],.bool false] else none
 | _,_=>none
end Go.AM
namespace Go.AM
abbrev uy (l:List Int):Prop:=l.Pairwise (· < ·)
theorem Lw: ∀{a b:List Int},uy a->uy b->(∀x,x∈a↔x∈b)->a=b
 | [],[],_,_,_=>rfl
 | [],y::b,_,_,h=>absurd ((h y).2 List.mem_cons_self) (by simp)
 | x::a,[],_,_,h=>absurd ((h x).1 List.mem_cons_self) (by simp)
 | x::a,y::b,ha,hb,h=>by
   have ha1:=List.pairwise_cons.1 ha
   have hb1:=List.pairwise_cons.1 hb
   have hxy:x=y:=by
    rcases List.mem_cons.1 ((h x).1 List.mem_cons_self) with e | hx
    ·exact e
    ·rcases List.mem_cons.1 ((h y).2 List.mem_cons_self) with e | hy
     ·exact e.symm
     ·have:=hb1.1 x hx;have:=ha1.1 y hy;omega
   subst hxy
   congr 1
   refine Lw ha1.2 hb1.2 fun z=> ?_
   have hz:=h z
   simp only [List.mem_cons] at hz
   constructor
   ·intro hm
    rcases hz.1 (.inr hm) with e | h2
    ·have:=ha1.1 z hm;omega
    ·exact h2
   ·intro hm
    rcases hz.2 (.inr hm) with e | h2
    ·have:=hb1.1 z hm;omega
    ·exact h2
theorem Wt {l:List Int} (hl:uy l) (n:Int):O2 l n<=l.length/\(∀x∈l.take (O2 l n),x < n)/\(∀x∈l.drop (O2 l n),n<=x):=by
 unfold O2
 cases h:l.findIdx? fun x=> !decide (x < n) with
 | none=>
   rw [List.findIdx?_eq_none_iff] at h
   refine ⟨by simp,fun x hx=> ?_,fun x hx=>by simp at hx⟩
   have:=h x (List.mem_of_mem_take hx)
   simpa using this
 | some i=>
   obtain ⟨hi,hp,hn⟩:=List.findIdx?_eq_some_iff_getElem.1 h
   have hge:n<=l[i]:=by simpa using hp
   simp only [Option.getD_some]
   refine ⟨by omega,fun x hx=> ?_,fun x hx=> ?_⟩
   ·obtain ⟨j,hj,rfl⟩:=List.mem_iff_getElem.1 hx
    simp only [List.length_take] at hj
    have:=hn j (by omega)
    simpa using this
   ·obtain ⟨j,hj,rfl⟩:=List.mem_iff_getElem.1 hx
    simp only [List.length_drop] at hj
    rw [List.getElem_drop]
    rcases Nat.eq_zero_or_pos j with h0 | h0
    ·subst h0;simpa using hge
    ·have:=List.pairwise_iff_getElem.1 hl i (i+j) (by omega) (by omega) (by omega)
     omega
theorem Ld {l:List Int} (hl:uy l) (n:Int):uy (Wc l n)/\ ∀x,x∈Wc l n↔x∈l\/x=n:=by
 obtain ⟨h1,h2,h3⟩:=Wt hl n
 unfold Wc
 split
 ·rename_i hs
  refine ⟨hl,fun x=>⟨.inl,?_⟩⟩
  rintro (h | rfl)
  ·exact h
  ·exact List.mem_of_getElem? hs
 ·rename_i hs
  have hgt: ∀x∈l.drop (O2 l n),n < x:=by
   intro x hx
   have h4:=h3 x hx
   rcases Int.lt_or_eq_of_le h4 with h | h
   ·exact h
   ·exfalso
    subst h
    obtain ⟨j,hj,he⟩:=List.mem_iff_getElem.1 hx
    simp only [List.length_drop] at hj
    rw [List.getElem_drop] at he
    rcases Nat.eq_zero_or_pos j with h0 | h0
    ·subst h0
     apply hs
     rw [List.getElem?_eq_getElem (by omega)]
     simpa using he
    ·have h5:=List.pairwise_iff_getElem.1 hl (O2 l n) (O2 l n+j) (by omega) (by omega) (by omega)
     have h6:=h3 l[O2 l n] (by rw [List.mem_iff_getElem];exact ⟨0,by simp;omega,by simp⟩)
     omega
  have hsplit:l=l.take (O2 l n)++l.drop (O2 l n):=(List.take_append_drop _ _).symm
  constructor
  ·have hp:=hl
   rw [hsplit] at hp
   have hp:=List.pairwise_append.1 hp
   rw [List.append_assoc]
   refine List.pairwise_append.2 ⟨hp.1,?_,fun a ha b hb=> ?_⟩
   ·simp only [List.singleton_append,List.pairwise_cons]
    exact ⟨hgt,hp.2.1⟩
   ·rcases List.mem_append.1 hb with hb | hb
    ·simp at hb;subst hb;exact h2 a ha
    ·exact hp.2.2 a ha b hb
  ·intro x
   have hm:x∈l↔x∈l.take (O2 l n)\/x∈l.drop (O2 l n):=by rw [<-List.mem_append,List.take_append_drop]
   rw [hm]
   simp only [List.mem_append,List.mem_singleton]
   constructor
   ·rintro ((h | h) | h)
    ·exact .inl (.inl h)
    ·exact .inr h
    ·exact .inl (.inr h)
   ·rintro ((h | h) | h)
    ·exact .inl (.inl h)
    ·exact .inr h
    ·exact .inl (.inr h)
end Go.AM
namespace Go.AM
open Go.RowKit
def TH:Value->Int | .int _ n=>n | _=>0
def abO {α:Type} (F:Fence) (n:Nat) (P:Program) (g:Nat) (lb:Array Value) (encs:α->Array Value) (R:List α->α->Prop) (Kp Chg:World->World->Prop) (S Sp:List α->Prop) (w:World):Prop:=
 ∀(l:Nat) (J Jx:List α->World->Prop) (W:World),Below w.heap.size w W->(∀s A B,J s A->Chg A B->J s B)->(∀s A B,Jx s A->Chg A B->Jx s B)->
  (∀pre x W1,R pre x->J pre W1->YieldAt F (n - 1) P l (encs x) W1 fun e W'=>(e= .returned (.bool true)/\J (pre++[x]) W'/\Kp W1 W')\/(e= .returned (.bool false)/\Jx (pre++[x]) W'))->
  J [] W->CallsIn F n P g (#[.func (.yield l) #[] #[]]++lb) W fun e W'=>(∃v,e= .returned v)/\((∃xs,S xs/\J xs W')\/(∃pre,Sp pre/\Jx pre W'))
def C6 {β:Type} (B:Nat) (I:β->World->Prop):Prop:=
 ∀s W W' row,I s W->W.grownBy W' row->(∀r,row=some r->(r=B\/r=B+1)/\ ∃o:Obj,W.heap[r]? =some o/\o.isCells=false)->I s W'
theorem OwnFrom.two {β:Type} {B:Nat} {I:β->World->Prop} (h:OwnFrom B I):C6 B I:=fun s W W' row hs hg hr=>h s W W' row hs hg fun r e=>⟨by have:=(hr r e).1;omega,(hr r e).2⟩
theorem C6.putObj {β:Type} {B:Nat} {I:β->World->Prop} (h:C6 B I) {s:β} {W:World} {l:Nat} {o:Obj} (o':Obj) (hs:I s W) (hB:l=B\/l=B+1) (hl:W.heap[l]? =some o) (ho:o.isCells=false):I s (W.putObj l o'):=
 h s W _ (some l) hs (grownBy_putObj' W l o') (fun r e=>by cases e;exact ⟨hB,o,hl,ho⟩)
theorem C6.alloc {β:Type} {B:Nat} {I:β->World->Prop} (h:C6 B I) {s:β} {W:World} (o:Obj) (hs:I s W):I s (W.alloc o):=
 h s W _ none hs (World.grownBy_alloc W o none) (fun r e=>by cases e)
section
variable {F:Fence} {n:Nat} {P:Program}
theorem AN {α:Type} {g:Operand} {ps:Array Tmp} {assign body:Code} {Q:Exit->Act->World->Prop} {a:Act} {w:World}
  (hro:F.round=none) (h1:1<=n) {gf:Nat} {lb:Array Value} (hg:a.eval g= .func (.func gf) #[] lb) (hFg:F.fn gf) (eg: ∀args w,(callFunc gf args).run P w= .ok (.enter gf args) w)
  {encs:α->Array Value} {Kp Chg:World->World->Prop} {S Sp:List α->Prop} (hseq:abO F (n - 1) P gf lb encs (fun _ _=>True) Kp Chg S Sp w) (hC: ∀(A B:World) (k:Nat) (o:Obj),Chg A B->w.heap.size<=k->A.heap[k]? =some o->o.isCells=false->B.heap[k]? =some o)
  (hKt: ∀{A B C:World},Kp A B->Kp B C->Kp A C) (hKb: ∀(W:World) (l:Nat) (o o':Obj),w.heap.size<=l->W.heap[l]? =some o->o.isCells=false->o.isWalk=false->Kp W (W.putObj l o')) (hps: ∀x,(encs x).size=ps.size)
  (I:List α->World->Prop) (Ix:Code->List α->World->Prop) (hI:C6 w.heap.size I) (hIx: ∀c,C6 w.heap.size (Ix c)) (hIC: ∀s A B,Chg A B->I s A->I s B) (hIxC: ∀c s A B,Chg A B->Ix c s A->Ix c s B) (h0:I [] w) (a₁:α->Act)
  (hassign: ∀(l:Nat) (x:α) (W:World) (K:Act->World->Prop),K (a₁ x) W->
    assign.wpIn (F.inRound l) (n - 1 - 1) P (Exit.then K (fun _ _ _=>False)) { tmps:=(ps.zip (encs x)).foldl (fun t (p,v)=>t.setIfInBounds p v) a.tmps,defers:=[] } W)
  (hbody: ∀(l:Nat) (pre:List α) (x:α) (W:World),I pre W->body.wpIn (F.inRound l) (n - 1 - 1) P (ownPostG w.heap.size Kp I Ix (pre++[x]) W) (a₁ x) W)
  (hdone: ∀(D:Nat) (xs:List α) (W:World),w.heap.size<=D->S xs->I xs W->W.heap[D]? =some (.deferred (some []))->Q .normal { a with defers:={ target:= .collected D,args:= #[] }::a.defers } W)
  (hstop: ∀(D:Nat) (c:Code) (pre:List α) (W:World),w.heap.size<=D->Sp pre->Ix c pre W->W.heap[D]? =some (.deferred (some []))->c.wpIn F n P Q { a with defers:={ target:= .collected D,args:= #[] }::a.defers } W):
  (Code.rangeFunc g ps assign body).wpIn F n P Q a w:=by
 refine wpIn_rangeFunc ?_
 intro fn hfn
 rw [hro]
 obtain ⟨rec,hrec⟩: ∃rec:LoopState->Option Code->Loop,rec=fun st pe=>{ state:=st,pending:=pe,fn,tmps:=a.tmps,params:=ps,assign,body,defers:=w.heap.size }:=⟨_,rfl⟩
 obtain ⟨W1,hW1⟩: ∃W1,(w.alloc (.deferred (some []))).alloc (.loop (rec .ready none))=W1:=⟨_,rfl⟩
 have hL1:W1.heap[w.heap.size+1]? =some (.loop (rec .ready none)):=by
  rw [<-hW1];have:=World.alloc_heap_new (w.alloc (.deferred (some []))) (.loop (rec .ready none));rwa [World.size_alloc] at this
 have hK1:W1.heap[w.heap.size]? =some (.deferred (some [])):=by
  rw [<-hW1];exact (Below.heap_alloc _ _ _ (by simp)).trans (World.alloc_heap_new w _)
 have hI1:I [] W1:=by rw [<-hW1];exact hI.alloc _ (hI.alloc _ h0)
 have hb1:Below w.heap.size w W1:=by
  rw [<-hW1];exact ((Below.refl _ w).alloc (Nat.le_refl _) _).alloc (by simp) _
 refine ⟨w.heap.size+1,[{ target:= .collected w.heap.size,args:= #[] }],W1,{ target:= .fn (.func gf) lb,args:= #[.func (.yield (w.heap.size+1)) #[] #[]] },W1,gf,
  #[.func (.yield (w.heap.size+1)) #[] #[]]++lb,W1,?_,?_,?_,?_,fun _=>h1,?_⟩
 ·rw [<-hW1,hrec];exact run_enterLoop_outer _ _ _ _ _
 ·simp only [resolve,hg]
  simp [go_sem]
 ·intro f' hf';simp [Target.leads] at hf';subst hf';exact hFg
 ·simp [invoke,go_sem,eg]
 ·
  refine (hseq (w.heap.size+1)
   (fun pre W=>I pre W/\W.heap[w.heap.size+1]? =some (.loop (rec .ready none))/\W.heap[w.heap.size]? =some (.deferred (some [])))
   (fun pre W=> ∃c,Ix c pre W/\W.heap[w.heap.size+1]? =some (.loop (rec .done (some c)))/\W.heap[w.heap.size]? =some (.deferred (some [])))
   W1 hb1
   (fun s A B hs hg=>⟨hIC s A B hg hs.1,hC A B _ _ hg (by omega) hs.2.1 rfl,hC A B _ _ hg (Nat.le_refl _) hs.2.2 rfl⟩)
   (fun s A B hs hg=>by
     obtain ⟨c,hc,hl,hk⟩:=hs
     exact ⟨c,hIxC c s A B hg hc,hC A B _ _ hg (by omega) hl rfl,hC A B _ _ hg (Nat.le_refl _) hk rfl⟩)
   ?_ ⟨hI1,hL1,hK1⟩).mono ?_
  ·
   rintro pre x W - ⟨hi,hl,hk⟩
   have hlt:w.heap.size+1 < W.heap.size:=(Array.getElem?_eq_some_iff.1 hl).1
   have hy:=run_yield (P:=P) (args:=encs x) hl (by rw [hrec];exact hps x)
   rw [hrec] at hy
   refine ⟨fn,_,assign,body,hy,roundIn_of_wpIn hfn (hassign _ x W _ ⟨_,run_beginRound hl (by rw [hrec]),?_⟩)⟩
   have hl2:(W.putObj (w.heap.size+1) (.loop { rec .ready none with state:= .busy })).heap[w.heap.size+1]? =some (.loop { rec .ready none with state:= .busy }):=World.putObj_heap_same hlt
   have hk2:(W.putObj (w.heap.size+1) (.loop { rec .ready none with state:= .busy })).heap[w.heap.size]? =some (.deferred (some [])):=(World.putObj_heap_other (by omega)).trans hk
   have hw2:Kp W (W.putObj (w.heap.size+1) (.loop { rec .ready none with state:= .busy })):=hKb _ _ _ _ (by omega) hl rfl rfl
   refine wpIn_mono (hbody _ pre x _ (hI.putObj _ hi (.inr rfl) hl rfl)) ?_
   have fin: ∀(jump:Option Code) (W3:World),KeepsFrom w.heap.size (W.putObj (w.heap.size+1) (.loop { rec .ready none with state:= .busy })) W3->
     (Instr.endRound (w.heap.size+1) jump).run P W3= .ok (.bool jump.isNone) (W3.putObj (w.heap.size+1) (.loop (rec (if jump.isNone then .ready else .done) jump)))/\
     W3.heap[w.heap.size+1]? =some (.loop { rec .ready none with state:= .busy })/\
     (W3.putObj (w.heap.size+1) (.loop (rec (if jump.isNone then .ready else .done) jump))).heap[w.heap.size+1]? =some (.loop (rec (if jump.isNone then .ready else .done) jump))/\
     (W3.putObj (w.heap.size+1) (.loop (rec (if jump.isNone then .ready else .done) jump))).heap[w.heap.size]? =some (.deferred (some [])):=fun jump W3 hk3=>by
    have hl3:=hk3.same _ _ (by omega) hl2 rfl
    have:=run_endRound (P:=P) jump hl3
    rw [hrec] at this ⊢
    exact ⟨this,by rw [hrec] at hl3;exact hl3,World.putObj_heap_same (Array.getElem?_eq_some_iff.1 hl3).1,(World.putObj_heap_other (by omega)).trans (hk3.same _ _ (Nat.le_refl _) hk2 rfl)⟩
   rintro e a3 W3 hp
   cases e with
   | normal=>
     obtain ⟨hk3,hkp3,hi3⟩:=hp
     obtain ⟨hr,hl3,hl4,hk4⟩:=fin none W3 hk3
     exact ⟨_,_,hr,.inl ⟨rfl,⟨hI.putObj _ hi3 (.inr rfl) hl3 rfl,hl4,hk4⟩,hKt (hKt hw2 hkp3) (hKb _ _ _ _ (by omega) hl3 rfl rfl)⟩⟩
   | ret=>
     obtain ⟨hk3,hi3⟩:=hp
     obtain ⟨hr,hl3,hl4,hk4⟩:=fin (some .ret) W3 hk3
     exact ⟨_,_,hr,.inr ⟨rfl,.ret,(hIx _).putObj _ hi3 (.inr rfl) hl3 rfl,hl4,hk4⟩⟩
   | exit id=>
     obtain ⟨hk3,hi3⟩:=hp
     obtain ⟨hr,hl3,hl4,hk4⟩:=fin (some (.exit id)) W3 hk3
     exact ⟨_,_,hr,.inr ⟨rfl,.exit id,(hIx _).putObj _ hi3 (.inr rfl) hl3 rfl,hl4,hk4⟩⟩
   | goto t=>
     obtain ⟨hk3,hi3⟩:=hp
     obtain ⟨hr,hl3,hl4,hk4⟩:=fin (some (.goto t)) W3 hk3
     exact ⟨_,_,hr,.inr ⟨rfl,.goto t,(hIx _).putObj _ hi3 (.inr rfl) hl3 rfl,hl4,hk4⟩⟩
   | panic ch=>exact hp.elim
   | outgrown=>exact hp.elim
  ·
   rintro e W2 ⟨⟨v,rfl⟩,(⟨xs,hS,hi,hl,hk⟩ | ⟨pre,hSp,c,hi,hl,hk⟩)⟩
   ·exact ⟨none,_,by have:=run_endLoop (P:=P) hl (by rw [hrec];simp);rw [hrec] at this;exact this,hdone _ xs _ (Nat.le_refl _) hS (hI.putObj _ hi (.inr rfl) hl rfl) ((World.putObj_heap_other (by omega)).trans hk)⟩
   ·exact ⟨some c,_,by have:=run_endLoop (P:=P) hl (by rw [hrec];simp);rw [hrec] at this;exact this,hstop _ c pre _ (Nat.le_refl _) hSp ((hIx c).putObj _ hi (.inr rfl) hl rfl) ((World.putObj_heap_other (by omega)).trans hk)⟩
theorem s6 {α:Type} {g:Operand} {ps:Array Tmp} {assign body:Code} {Q:Exit->Act->World->Prop} {a:Act} {w:World}
  (hro:F.round=none) (h1:1<=n) {gf:Nat} {lb:Array Value} (hg:a.eval g= .func (.func gf) #[] lb) (hFg:F.fn gf) (eg: ∀args w,(callFunc gf args).run P w= .ok (.enter gf args) w)
  {encs:α->Array Value} {R:List α->α->Prop} {Kp Chg:World->World->Prop} {S Sp:List α->Prop} (hseq:abO F (n - 1) P gf lb encs R Kp Chg S Sp w) (hC: ∀(A B:World) (k:Nat) (o:Obj),Chg A B->w.heap.size<=k->A.heap[k]? =some o->o.isCells=false->B.heap[k]? =some o)
  (hKt: ∀{A B C:World},Kp A B->Kp B C->Kp A C) (hKb: ∀(W:World) (l:Nat) (o o':Obj),w.heap.size<=l->W.heap[l]? =some o->o.isCells=false->o.isWalk=false->Kp W (W.putObj l o')) (hps: ∀x,(encs x).size=ps.size)
  (I:List α->World->Prop) (Ix:Code->List α->World->Prop) (hI:C6 w.heap.size I) (hIx: ∀c,C6 w.heap.size (Ix c)) (hIC: ∀s A B,Chg A B->I s A->I s B) (hIxC: ∀c s A B,Chg A B->Ix c s A->Ix c s B) (h0:I [] w) (Ax:List α->α->Act->World->Prop) (hAx: ∀x a',C6 w.heap.size (fun pre W=>Ax pre x a' W))
  (hassign: ∀(l:Nat) (pre:List α) (x:α) (W:World) (K:Act->World->Prop),w.heap.size+2<=W.heap.size->R pre x->I pre W->(∀a' W',Ax pre x a' W'->KeepsFrom w.heap.size W W'->Kp W W'->K a' W')->
    assign.wpIn (F.inRound l) (n - 1 - 1) P (Exit.then K (fun _ _ _=>False)) { tmps:=(ps.zip (encs x)).foldl (fun t (p,v)=>t.setIfInBounds p v) a.tmps,defers:=[] } W)
  (hbody: ∀(l:Nat) (pre:List α) (x:α) (a':Act) (W:World),R pre x->Ax pre x a' W->body.wpIn (F.inRound l) (n - 1 - 1) P (ownPostG w.heap.size Kp I Ix (pre++[x]) W) a' W)
  (hdone: ∀(D:Nat) (xs:List α) (W:World),D=w.heap.size->S xs->I xs W->W.heap[D]? =some (.deferred (some []))->Q .normal { a with defers:={ target:= .collected D,args:= #[] }::a.defers } W)
  (hstop: ∀(D:Nat) (c:Code) (pre:List α) (W:World),D=w.heap.size->Sp pre->Ix c pre W->W.heap[D]? =some (.deferred (some []))->c.wpIn F n P Q { a with defers:={ target:= .collected D,args:= #[] }::a.defers } W):
  (Code.rangeFunc g ps assign body).wpIn F n P Q a w:=by
 refine wpIn_rangeFunc ?_
 intro fn hfn
 rw [hro]
 obtain ⟨rec,hrec⟩: ∃rec:LoopState->Option Code->Loop,rec=fun st pe=>{ state:=st,pending:=pe,fn,tmps:=a.tmps,params:=ps,assign,body,defers:=w.heap.size }:=⟨_,rfl⟩
 obtain ⟨W1,hW1⟩: ∃W1,(w.alloc (.deferred (some []))).alloc (.loop (rec .ready none))=W1:=⟨_,rfl⟩
 have hL1:W1.heap[w.heap.size+1]? =some (.loop (rec .ready none)):=by
  rw [<-hW1];have:=World.alloc_heap_new (w.alloc (.deferred (some []))) (.loop (rec .ready none));rwa [World.size_alloc] at this
 have hK1:W1.heap[w.heap.size]? =some (.deferred (some [])):=by
  rw [<-hW1];exact (Below.heap_alloc _ _ _ (by simp)).trans (World.alloc_heap_new w _)
 have hI1:I [] W1:=by rw [<-hW1];exact hI.alloc _ (hI.alloc _ h0)
 have hb1:Below w.heap.size w W1:=by
  rw [<-hW1];exact ((Below.refl _ w).alloc (Nat.le_refl _) _).alloc (by simp) _
 refine ⟨w.heap.size+1,[{ target:= .collected w.heap.size,args:= #[] }],W1,{ target:= .fn (.func gf) lb,args:= #[.func (.yield (w.heap.size+1)) #[] #[]] },W1,gf,
  #[.func (.yield (w.heap.size+1)) #[] #[]]++lb,W1,?_,?_,?_,?_,fun _=>h1,?_⟩
 ·rw [<-hW1,hrec];exact run_enterLoop_outer _ _ _ _ _
 ·simp only [resolve,hg]
  simp [go_sem]
 ·intro f' hf';simp [Target.leads] at hf';subst hf';exact hFg
 ·simp [invoke,go_sem,eg]
 ·
  refine (hseq (w.heap.size+1)
   (fun pre W=>I pre W/\W.heap[w.heap.size+1]? =some (.loop (rec .ready none))/\W.heap[w.heap.size]? =some (.deferred (some [])))
   (fun pre W=> ∃c,Ix c pre W/\W.heap[w.heap.size+1]? =some (.loop (rec .done (some c)))/\W.heap[w.heap.size]? =some (.deferred (some [])))
   W1 hb1
   (fun s A B hs hg=>⟨hIC s A B hg hs.1,hC A B _ _ hg (by omega) hs.2.1 rfl,hC A B _ _ hg (Nat.le_refl _) hs.2.2 rfl⟩)
   (fun s A B hs hg=>by
     obtain ⟨c,hc,hl,hk⟩:=hs
     exact ⟨c,hIxC c s A B hg hc,hC A B _ _ hg (by omega) hl rfl,hC A B _ _ hg (Nat.le_refl _) hk rfl⟩)
   ?_ ⟨hI1,hL1,hK1⟩).mono ?_
  ·
   rintro pre x W hRx ⟨hi,hl,hk⟩
   have hy:=run_yield (P:=P) (args:=encs x) hl (by rw [hrec];exact hps x)
   rw [hrec] at hy
   refine ⟨fn,_,assign,body,hy,roundIn_of_wpIn hfn (hassign _ pre x W _ (by have:=(Array.getElem?_eq_some_iff.1 hl).1;omega) hRx hi fun a' V hax hkf hkp=> ?_)⟩
   have hlV:V.heap[w.heap.size+1]? =some (.loop (rec .ready none)):=hkf.same _ _ (by omega) hl rfl
   have hkV:V.heap[w.heap.size]? =some (.deferred (some [])):=hkf.same _ _ (Nat.le_refl _) hk rfl
   refine ⟨_,run_beginRound hlV (by rw [hrec]),?_⟩
   have hlt:w.heap.size+1 < V.heap.size:=(Array.getElem?_eq_some_iff.1 hlV).1
   have hl2:(V.putObj (w.heap.size+1) (.loop { rec .ready none with state:= .busy })).heap[w.heap.size+1]? =some (.loop { rec .ready none with state:= .busy }):=World.putObj_heap_same hlt
   have hk2:(V.putObj (w.heap.size+1) (.loop { rec .ready none with state:= .busy })).heap[w.heap.size]? =some (.deferred (some [])):=(World.putObj_heap_other (by omega)).trans hkV
   have hw2:Kp W (V.putObj (w.heap.size+1) (.loop { rec .ready none with state:= .busy })):=hKt hkp (hKb _ _ _ _ (by omega) hlV rfl rfl)
   refine wpIn_mono (hbody _ pre x a' _ hRx ((hAx x a').putObj _ hax (.inr rfl) hlV rfl)) ?_
   have fin: ∀(jump:Option Code) (W3:World),KeepsFrom w.heap.size (V.putObj (w.heap.size+1) (.loop { rec .ready none with state:= .busy })) W3->
     (Instr.endRound (w.heap.size+1) jump).run P W3= .ok (.bool jump.isNone) (W3.putObj (w.heap.size+1) (.loop (rec (if jump.isNone then .ready else .done) jump)))/\
     W3.heap[w.heap.size+1]? =some (.loop { rec .ready none with state:= .busy })/\
     (W3.putObj (w.heap.size+1) (.loop (rec (if jump.isNone then .ready else .done) jump))).heap[w.heap.size+1]? =some (.loop (rec (if jump.isNone then .ready else .done) jump))/\
     (W3.putObj (w.heap.size+1) (.loop (rec (if jump.isNone then .ready else .done) jump))).heap[w.heap.size]? =some (.deferred (some [])):=fun jump W3 hk3=>by
    have hl3:=hk3.same _ _ (by omega) hl2 rfl
    have:=run_endRound (P:=P) jump hl3
    rw [hrec] at this ⊢
    exact ⟨this,by rw [hrec] at hl3;exact hl3,World.putObj_heap_same (Array.getElem?_eq_some_iff.1 hl3).1,(World.putObj_heap_other (by omega)).trans (hk3.same _ _ (Nat.le_refl _) hk2 rfl)⟩
   rintro e a3 W3 hp
   cases e with
   | normal=>
     obtain ⟨hk3,hkp3,hi3⟩:=hp
     obtain ⟨hr,hl3,hl4,hk4⟩:=fin none W3 hk3
     exact ⟨_,_,hr,.inl ⟨rfl,⟨hI.putObj _ hi3 (.inr rfl) hl3 rfl,hl4,hk4⟩,hKt (hKt hw2 hkp3) (hKb _ _ _ _ (by omega) hl3 rfl rfl)⟩⟩
   | ret=>
     obtain ⟨hk3,hi3⟩:=hp
     obtain ⟨hr,hl3,hl4,hk4⟩:=fin (some .ret) W3 hk3
     exact ⟨_,_,hr,.inr ⟨rfl,.ret,(hIx _).putObj _ hi3 (.inr rfl) hl3 rfl,hl4,hk4⟩⟩
   | exit id=>
     obtain ⟨hk3,hi3⟩:=hp
     obtain ⟨hr,hl3,hl4,hk4⟩:=fin (some (.exit id)) W3 hk3
     exact ⟨_,_,hr,.inr ⟨rfl,.exit id,(hIx _).putObj _ hi3 (.inr rfl) hl3 rfl,hl4,hk4⟩⟩
   | goto t=>
     obtain ⟨hk3,hi3⟩:=hp
     obtain ⟨hr,hl3,hl4,hk4⟩:=fin (some (.goto t)) W3 hk3
     exact ⟨_,_,hr,.inr ⟨rfl,.goto t,(hIx _).putObj _ hi3 (.inr rfl) hl3 rfl,hl4,hk4⟩⟩
   | panic ch=>exact hp.elim
   | outgrown=>exact hp.elim
  ·
   rintro e W2 ⟨⟨v,rfl⟩,(⟨xs,hS,hi,hl,hk⟩ | ⟨pre,hSp,c,hi,hl,hk⟩)⟩
   ·exact ⟨none,_,by have:=run_endLoop (P:=P) hl (by rw [hrec];simp);rw [hrec] at this;exact this,hdone _ xs _ rfl hS (hI.putObj _ hi (.inr rfl) hl rfl) ((World.putObj_heap_other (by omega)).trans hk)⟩
   ·exact ⟨some c,_,by have:=run_endLoop (P:=P) hl (by rw [hrec];simp);rw [hrec] at this;exact this,hstop _ c pre _ rfl hSp ((hIx c).putObj _ hi (.inr rfl) hl rfl) ((World.putObj_heap_other (by omega)).trans hk)⟩
end
def fo (w:World) (P:Program) (tk te:TypeId) (b n:Nat) (f:Int->Option Int):Prop:=
 ∃D:DataW Unit,w.ownsMap P tk (plainElem P te) b n D/\Maps.size D=n/\ ∀k,(Maps.has D (.int .i64 k)=(f k).isSome)/\ ∀c,f k=some c->D.atKey (.int .i64 k) (.lit (.int .i64 0))= .lit (.int .i64 c)
theorem CP {H:Type} {w w':World} {P:Program} {k:TypeId} {R:Value->Option (DataW H×List MemPlace)} {b n:Nat} {D:DataW H} (h:w.ownsMap P k R b n D) (hb:w'.heap[b]? =w.heap[b]?):w'.ownsMap P k R b n D:=by
 obtain ⟨es,c,h1,h2⟩:=h
 exact ⟨es,c,hb.trans h1,h2⟩
theorem fo.of_block {w w':World} {P:Program} {tk te:TypeId} {b n:Nat} {f:Int->Option Int} (h:fo w P tk te b n f) (hb:w'.heap[b]? =w.heap[b]?):fo w' P tk te b n f:=by
 obtain ⟨D,h1,h2⟩:=h
 exact ⟨D,CP h1 hb,h2⟩
theorem fo.below {w w':World} {P:Program} {tk te:TypeId} {b n n0:Nat} {f:Int->Option Int} (h:fo w P tk te b n f) (hb:b < n0) (hw:Below n0 w w'):fo w' P tk te b n f:=h.of_block (hw.block b hb)
theorem fo.made (w:World) (P:Program) (tk te:TypeId):fo (w.alloc (.map #[] 0)) P tk te w.heap.size 0 (fun _=>none):=
 ⟨_,World.ownsMap_made w P tk _,rfl,fun k=>⟨rfl,fun c h=>by cases h⟩⟩
theorem Ql {α:Type} {p:List α->Prop} (h0:p []) (h1: ∀l x,p l->p (l++[x])) (l:List α):p l:=by
 have: ∀r:List α,p r.reverse:=by
  intro r
  induction r with
  | nil=>exact h0
  | cons x r ih=>rw [List.reverse_cons];exact h1 _ _ ih
 simpa using this l.reverse
theorem Yd (k:Int):lD [] k=none:=rfl
theorem QG:cA []=[]:=rfl
theorem FM (ps:List (Int×Int)) (p:Int×Int) (k:Int):lD (ps++[p]) k=if (lD ps k).isSome then lD ps k else if p.1=k then some p.2 else none:=by
 unfold lD
 rw [List.find?_append]
 cases h:ps.find? fun p=>p.1==k with
 | some q=>simp
 | none=>
   simp only [Option.map_none,Option.isSome_none,Bool.false_eq_true,if_false,Option.none_or,List.find?_cons]
   by_cases e:p.1=k
   ·simp [e]
   ·have:(p.1==k)=false:=by simp [e]
    simp [e,this]
theorem xz (ps:List (Int×Int)) (p:Int×Int):cA (ps++[p])=if (cA ps).contains p.1 then cA ps else cA ps++[p.1]:=by
 unfold cA;rw [List.foldl_append];rfl
theorem pN (ps:List (Int×Int)) (k:Int):k∈cA ps↔(lD ps k).isSome=true:=by
 induction ps using Ql generalizing k with
 | h0=>simp [QG,Yd]
 | h1 ps p ih=>
   rw [xz,FM]
   by_cases hc:p.1∈cA ps
   ·have hc':=(ih p.1).1 hc
    simp only [List.contains_iff_mem,hc,if_true]
    rw [ih]
    by_cases e:p.1=k
    ·subst e;simp [hc']
    ·by_cases hk:(lD ps k).isSome=true
     ·simp [hk]
     ·simp [hk,e]
   ·have hc': ¬(lD ps p.1).isSome=true:=fun h=>hc ((ih p.1).2 h)
    simp only [List.contains_iff_mem,hc,if_false,List.mem_append,List.mem_singleton]
    rw [ih]
    by_cases hk:(lD ps k).isSome=true
    ·simp [hk]
    ·by_cases e:p.1=k
     ·simp [hk,e]
     ·simp [hk,e,Ne.symm e]
theorem Bk (ps:List (Int×Int)):(cA ps).length<=ps.length:=by
 induction ps using Ql with
 | h0=>simp [QG]
 | h1 ps p ih=>
   rw [xz]
   split<;>simp<;>omega
theorem fo.same {w:World} {P:Program} {tk te:TypeId} {b:Nat} {ps:List (Int×Int)} {p:Int×Int} (h:fo w P tk te b (cA ps).length (lD ps)) (hk:(lD ps p.1).isSome=true):fo w P tk te b (cA (ps++[p])).length (lD (ps++[p])):=by
 have h1:cA (ps++[p])=cA ps:=by rw [xz];simp [(pN ps p.1).2 hk]
 have h2:lD (ps++[p])=lD ps:=by
  funext k
  rw [FM]
  by_cases e:(lD ps k).isSome=true
  ·simp [e]
  ·have: ¬p.1=k:=fun h=>e (h▸hk)
   simp only [e,if_false,this,if_false]
   simp at e
   simp [e]
 rw [h1,h2];exact h
theorem fo.put {w':World} {P:Program} {tk te:TypeId} {b:Nat} {ps:List (Int×Int)} {p:Int×Int} (hk:(lD ps p.1).isSome=false) {D:DataW Unit} (hm:Maps.IsMap D) (ht:Maps.Tidy D) (hs:Maps.size D=(cA ps).length) (hf: ∀k,(Maps.has D (.int .i64 k)=(lD ps k).isSome)/\ ∀c,lD ps k=some c->D.atKey (.int .i64 k) (.lit (.int .i64 0))= .lit (.int .i64 c))
  (h:w'.ownsMap P tk (plainElem P te) b ((cA ps).length+1) (D.put (.int .i64 p.1) (.lit (.int .i64 p.2)))):fo w' P tk te b (cA (ps++[p])).length (lD (ps++[p])):=by
 have hnot:p.1∉cA ps:=fun h=>by rw [(pN ps p.1).1 h] at hk;cases hk
 have h1:(cA (ps++[p])).length=(cA ps).length+1:=by rw [xz];simp [hnot]
 rw [h1]
 refine ⟨_,h,?_,fun k=> ?_⟩
 ·rw [Maps.size_put ht,(hf p.1).1,hk,hs];rfl
 ·rw [FM]
  by_cases e:p.1=k
  ·subst e
   rw [Maps.has_put_same hm (show WideAt.IsKeyLit (.int .i64 p.1) from trivial),Maps.atKey_put_same hm (show WideAt.IsKeyLit (.int .i64 p.1) from trivial)]
   simp only [hk]
   simp
  ·have hne:(Lit.int .i64 k)≠ .int .i64 p.1:=fun h=>by cases h;exact e rfl
   rw [Maps.has_put_other hne,Maps.atKey_put_other hne]
   simp only [e,if_false]
   by_cases hl:(lD ps k).isSome=true
   ·simp only [hl,if_true];rw [<-hl];exact hf k
   ·simp only [hl,if_false]
    simp only [Bool.not_eq_true] at hl
    rw [(hf k).1,hl]
    simp
theorem fo.look {w:World} {P:Program} {t tk te:TypeId} {b n:Nat} {f:Int->Option Int} (h:fo w P tk te b n f) (ht:P.underlying t=some (.map tk te)) (hk:P.underlying tk=some (.int .i64)) (he:P.underlying te=some (.int .i64)) (hz:(zeroValue te).run P w= .ok (.int .i64 0) w) {k:Int} (hw:(Lit.int .i64 k).wf=true):
  ∃c,(Instr.lookup t (.map (some b)) (.int .i64 k) true).run P w= .ok (.tuple #[.int .i64 c,.bool (f k).isSome]) w/\ ∀x,f k=some x->c=x:=by
 obtain ⟨D,h1,h2,h3⟩:=h
 obtain ⟨v,ps,hrun,hv⟩:=h1.look_ok (Maps.int_keyed hk) ht hz (zd:= .lit (.int .i64 0)) (zp:=[]) (plainElem_int he (by decide)) (Maps.keyOf_int_mk hk hw)
 obtain ⟨c,rfl,hc,hwc⟩:=plainElem_int_inv he hv
 refine ⟨c,by rw [hrun,(h3 k).1],fun x hx=> ?_⟩
 have:=(h3 k).2 x hx
 have hcc:D.atKey (.int .i64 k) (.lit (.int .i64 0))= .lit (.int .i64 c):=congrArg Prod.fst hc
 rw [hcc] at this
 simpa using this
theorem fo.stored {w:World} {P:Program} {t tk te:TypeId} {b:Nat} {ps:List (Int×Int)} {p:Int×Int} (h:fo w P tk te b (cA ps).length (lD ps)) (ht:P.underlying t=some (.map tk te)) (hk:P.underlying tk=some (.int .i64)) (he:P.underlying te=some (.int .i64)) (hl:(lD ps p.1).isSome=false) (hn:ps.length < maxLen)
  (hw1:(Lit.int .i64 p.1).wf=true) (hw2:(Lit.int .i64 p.2).wf=true): ∃w',(Instr.mapUpdate t (.map (some b)) (.int .i64 p.1) (.int .i64 p.2)).run P w= .ok () w'/\fo w' P tk te b (cA (ps++[p])).length (lD (ps++[p]))/\w.grownBy w' (some b):=by
 obtain ⟨D,h1,h2,h3⟩:=h
 obtain ⟨w',hrun,r1,r2⟩:=h1.update (Maps.int_keyed hk) ht (Nat.lt_of_le_of_lt (Bk ps) hn) (Maps.keyOf_int_mk hk hw1) (plainElem_int he hw2)
 exact ⟨w',hrun,fo.put (p:=p) hl h1.isMap (h1.tidy (Maps.int_keyed hk)) h2 h3 r1,r2⟩
theorem fo.len {w:World} {P:Program} {t tk te:TypeId} {b n:Nat} {f:Int->Option Int} (h:fo w P tk te b n f) (ht:P.underlying t=some (.map tk te)) (ty:TypeId):(Builtin.len_ #[t] ty #[.map (some b)]).run P w= .ok (.int .i64 n) w:=by
 obtain ⟨D,h1,h2,h3⟩:=h
 rw [h1.len ht,h2]
theorem fo.lt {w:World} {P:Program} {tk te:TypeId} {b n:Nat} {f:Int->Option Int} (h:fo w P tk te b n f):b < w.heap.size:=by
 obtain ⟨D,h1,h2⟩:=h;exact h1.lt
theorem fo.alloc {w:World} {P:Program} {tk te:TypeId} {b n:Nat} {f:Int->Option Int} (h:fo w P tk te b n f) (o:Obj):fo (w.alloc o) P tk te b n f:=by
 obtain ⟨D,h1,h2⟩:=h;exact ⟨D,h1.alloc o,h2⟩
theorem L4 {α:Type} {l:List α} {k:Nat} {x:α} (h:l[k]? =some x):l.take (k+1)=l.take k++[x]:=by
 rw [List.take_add_one,h];rfl
theorem RK {w0 w w':World} {b n:Nat} (hb:Below n w0 w) (hg:w.grownBy w' (some b)) (h:n<=b) (hn:n<=w0.heap.size):Below n w0 w':=hb.grown hg (Nat.le_trans hn hb.size) fun k e=>by cases e;exact h
end Go.AM
namespace Go.AM
open Go.RowKit Go.Lib
def Zc (ns:List Int) (k:Nat):Int:=IntKind.i64.wrap (ns.getD k 0 - (0::ns).getD k 0)
theorem BW (Zig Put:IV->Option (List IV)): ∀(es:List (List IV)) (last:Int) (acc:ByteArray) (r:List IV),xI Zig Put last es acc=some r->
  ∃(ns:List Int) (f:Nat->ByteArray),es=ns.map (fun n=>[.int .i64 n])/\f 0=acc/\r=[.str (f ns.length)]/\
   ∀k,k < ns.length-> ∃z q s,Zig (.int .i64 (IntKind.i64.wrap (ns.getD k 0 - (last::ns).getD k 0)))=some z/\Put (nth z 0)=some q/\nth q 0= .str s/\(f k).size+s.size<=140737488355328/\f (k+1)=f k++s
 | [],last,acc,r,h=>by
   simp only [xI,Option.some.injEq] at h
   exact ⟨[],fun _=>acc,rfl,rfl,h.symm,fun k hk=>by simp at hk⟩
 | e::es,last,acc,r,h=>by
   by_cases hE: ∃n,e=[.int .i64 n]
   ·obtain ⟨n,rfl⟩:=hE
    simp only [xI] at h
    obtain ⟨z,hz,h⟩:=Option.bind_eq_some_iff.1 h
    obtain ⟨q,hq,h⟩:=Option.bind_eq_some_iff.1 h
    split at h
    ·rename_i s hs
     split at h
     ·rename_i hle
      obtain ⟨ns,f,h1,h2,h3,h4⟩:=BW Zig Put es n (acc++s) r h
      refine ⟨n::ns,fun k=>match k with | 0=>acc | k+1=>f k,by rw [h1];rfl,rfl,h3,fun k hk=> ?_⟩
      cases k with
      | zero=>exact ⟨z,q,s,by simpa using hz,hq,hs,hle,h2⟩
      | succ k=>
        obtain ⟨z',q',s',g1,g2,g3,g4,g5⟩:=h4 k (by simpa using hk)
        exact ⟨z',q',s',by simpa using g1,g2,g3,g4,g5⟩
     ·cases h
    ·cases h
   ·exfalso
    unfold xI at h
    split at h
    ·rename_i heq;cases heq
    ·rename_i heq;cases heq;exact hE ⟨_,rfl⟩
    ·cases h
theorem DQ {Zig Put:IV->Option (List IV)} {x:IV} {r:List IV} (h:NS Zig Put x=some r):
  ∃(ns:List Int) (f:Nat->ByteArray),x= .lst (ns.map fun n=>[.int .i64 n])/\ns.length<=2 ^ 40/\f 0=⟨#[]⟩/\r=[.str (f ns.length)]/\
   ∀k,k < ns.length-> ∃z q s,Zig (.int .i64 (Zc ns k))=some z/\Put (nth z 0)=some q/\nth q 0= .str s/\(f k).size+s.size<=140737488355328/\f (k+1)=f k++s:=by
 unfold NS at h
 split at h
 ·split at h
  ·rename_i es hl
   obtain ⟨ns,f,h1,h2,h3,h4⟩:=BW Zig Put es 0 _ r h
   exact ⟨ns,f,by rw [h1],by rw [h1] at hl;simpa using hl,h2,h3,h4⟩
  ·cases h
 ·cases h
theorem Er (a b:ByteArray):strCells (a++b)=strCells a++strCells b:=by
 simp [strCells]
def XZ (n B b:Nat) (w w':World):Prop:=w'.heap[B]? =w.heap[B]? /\(0 < n->w'.heap[b]? =w.heap[b]?)
theorem XZ.refl (n B b:Nat) (w:World):XZ n B b w w:=⟨rfl,fun _=>rfl⟩
theorem XZ.trans {n B b:Nat} {w w1 w2:World} (h:XZ n B b w w1) (k:XZ n B b w1 w2):XZ n B b w w2:=⟨k.1.trans h.1,fun x=>(k.2 x).trans (h.2 x)⟩
theorem BdAt.kept {w w':World} {T e:TypeId} {b:Nat} {p u:Value} {n:Nat} {bs:List Value} (h:BdAt w T e b p u n bs) {row:Option Nat} (hg:w.grownBy w' row) (h1:some b≠row) (h2:u.ownBlock=none\/u.ownBlock≠row):BdAt w' T e b p u n bs:=
 ⟨(hg.block b (Array.getElem?_eq_some_iff.1 h.heap).1 h1).trans h.heap,h.addr,h.own.kept hg h2,h.ne⟩
theorem BdAt.below {w w':World} {T e:TypeId} {b:Nat} {p u:Value} {n:Nat} {bs:List Value} (h:BdAt w T e b p u n bs) (hb:Below w.heap.size w w'):BdAt w' T e b p u n bs:=
 h.kept (row:=none) ⟨hb.os,hb.tape,hb.output,hb.size,fun k hk _=>hb.block k hk⟩ (by simp) (by cases u.ownBlock<;>simp)
end Go.AM
namespace Go.AM
open Go.RowKit
theorem Te {w:World} {ad:Addr} {u:Value} (h:w.cell? (ad.add 0)=some u) (q:Nat):ad.add q=⟨ad.block,ad.off+q,none⟩:=by
 have h0:ad.add 0=ad:=by simp [Addr.add]
 rw [h0] at h
 have hs:ad.spot=none:=by
  unfold World.cell? at h
  split at h
  ·split at h
   ·cases h
   ·rename_i hs;simpa using hs
  ·cases h
 obtain ⟨b,o,s⟩:=ad
 simp only at hs
 subst hs
 by_cases hq:q=0
 ·subst hq;simp [Addr.add]
 ·simp [Addr.add,hq]
theorem xE {α β:Type} {f:α->Option β}: ∀{l:List α} {r:List β},l.mapM f=some r->r.length=l.length/\ ∀(i:Nat) (x:α),l[i]? =some x-> ∃y,r[i]? =some y/\f x=some y:=by
 intro l r h
 obtain ⟨h1,h2⟩:=ed h
 exact ⟨h1,fun i x hx=>h2 i x hx⟩
theorem CN {w:World} {ok:Nat->Prop} (hok: ∀b,ok b->b < w.heap.size) {es:List (List IV)} {v:Value} (r:RV w ok (.lst es) v) {sz:Nat} (hpos:0 < sz) (hall: ∀e∈es,e.length=sz):
  ∃(A:Option Addr) (cap b off:Nat),v= .slice A es.length cap/\(0 < es.length->A=some ⟨b,off,none⟩/\b < w.heap.size)/\ ∀(i j:Nat) (e:List IV) (x:IV),es[i]? =some e->e[j]? =some x-> ∃u,w.cell? ⟨b,off+i*sz+j,none⟩=some u/\RV w ok x u:=by
 obtain ⟨A,cap,vs,hv,hr,hc⟩:=MZ hok r hpos hall
 by_cases he:0 < es.length
 ·obtain ⟨ad,hA,hq⟩:=hc he
  have hl0:0 < vs.length:=by rw [hr.1];exact Nat.mul_pos he hpos
  have h0:=hq 0 vs[0] (List.getElem?_eq_getElem hl0)
  have hp:=Te h0
  have hb:ad.block < w.heap.size:=by
   obtain ⟨c,T,fr,h1,_⟩:=yB h0
   rw [js] at h1
   exact (Array.getElem?_eq_some_iff.1 h1).1
  refine ⟨A,cap,ad.block,ad.off,hv,fun _=>⟨?_,hb⟩,fun i j e x h1 h2=> ?_⟩
  ·rw [hA]
   have:=hp 0
   simp [Addr.add] at this
   rw [this]
  ·obtain ⟨u,hu,hru⟩:=hr.2.2 i j e x h1 h2
   exact ⟨u,by rw [<-hq _ u hu,hp,Nat.add_assoc],hru⟩
 ·refine ⟨A,cap,0,0,hv,fun h=>absurd h he,fun i j e x h1 _=> ?_⟩
  have:=(List.getElem?_eq_some_iff.1 h1).1
  omega
theorem nb {e:List IV} {p:Int×Int} (h:EN e=some p): ∃s r,e=[.int .i64 p.1,.int .i64 p.2,.str s,.flt .f64 r]/\(Lit.int .i64 p.1).wf=true/\(Lit.int .i64 p.2).wf=true:=by
 unfold EN at h
 split at h
 ·split at h
  ·rename_i hw;cases h;exact ⟨_,_,rfl,hw.1,hw.2⟩
  ·cases h
 ·cases h
theorem Hf {f:List IV->Option (Int×Int)} {es:List (List IV)} {ps:List (Int×Int)} (h:es.mapM f=some ps):ps.length=es.length:=(xE h).1
def strOf:IV->ByteArray | .str s=>s | _=>default
def YD:IV->Nat | .flt _ n=>n | _=>0
def zM (w:World) (b off:Nat) (ps:List (Int×Int)) (ss:Nat->ByteArray) (fs:Nat->Nat):Prop:=
 ∀(j:Nat) (p:Int×Int),ps[j]? =some p->w.cell? ⟨b,off+j*4,none⟩=some (.int .i64 p.1)/\w.cell? ⟨b,off+j*4+1,none⟩=some (.int .i64 p.2)/\w.cell? ⟨b,off+j*4+2,none⟩=some (.string (ss j))/\w.cell? ⟨b,off+j*4+3,none⟩=some (.float .f64 (fs j))
theorem Ue {w:World} {ok:Nat->Prop} (hok: ∀b,ok b->b < w.heap.size) {es:List (List IV)} {v:Value} (r:RV w ok (.lst es) v) {ps:List (Int×Int)} (h:es.mapM EN=some ps):
  ∃(A:Option Addr) (cap b off:Nat) (ss:Nat->ByteArray) (fs:Nat->Nat),v= .slice A ps.length cap/\(0 < ps.length->A=some ⟨b,off,none⟩)/\(0 < ps.length->b < w.heap.size)/\(∀p∈ps,(Lit.int .i64 p.1).wf=true/\(Lit.int .i64 p.2).wf=true)/\zM w b off ps ss fs:=by
 obtain ⟨hl,hg⟩:=xE h
 have hlen: ∀e∈es,e.length=4:=fun e he=>by
  obtain ⟨i,hi⟩:=List.mem_iff_getElem?.1 he
  obtain ⟨p,_,hp⟩:=hg i e hi
  obtain ⟨s,r,rfl,_⟩:=nb hp
  rfl
 obtain ⟨A,cap,b,off,hv,hA,hc⟩:=CN hok r (by decide) hlen
 refine ⟨A,cap,b,off,fun j=>strOf (((es.getD j []).getD 2 .nilp)),fun j=>YD (((es.getD j []).getD 3 .nilp)),by rw [hl];exact hv,fun h=>(hA (by omega)).1,fun h=>(hA (by omega)).2,fun p hp=> ?_,fun j p hj=> ?_⟩
 ·obtain ⟨i,hi⟩:=List.mem_iff_getElem?.1 hp
  have hi2:i < es.length:=by rw [<-hl];exact (List.getElem?_eq_some_iff.1 hi).1
  obtain ⟨p',h1,h2⟩:=hg i _ (List.getElem?_eq_getElem hi2)
  rw [hi] at h1;cases h1
  obtain ⟨s,r,_,h3,h4⟩:=nb h2
  exact ⟨h3,h4⟩
 ·have hi2:j < es.length:=by rw [<-hl];exact (List.getElem?_eq_some_iff.1 hj).1
  have he:=List.getElem?_eq_getElem hi2
  obtain ⟨p',h1,h2⟩:=hg j _ he
  rw [hj] at h1;cases h1
  obtain ⟨s,r,h5,_⟩:=nb h2
  rw [h5] at he
  have hget:es.getD j []=[.int .i64 p.1,.int .i64 p.2,.str s,.flt .f64 r]:=by rw [List.getD_eq_getElem?_getD,he];rfl
  simp only [hget]
  obtain ⟨u0,g0,k0⟩:=hc j 0 _ _ he rfl
  obtain ⟨u1,g1,k1⟩:=hc j 1 _ _ he rfl
  obtain ⟨u2,g2,k2⟩:=hc j 2 _ _ he rfl
  obtain ⟨u3,g3,k3⟩:=hc j 3 _ _ he rfl
  cases k0;cases k1;cases k2;cases k3
  exact ⟨g0,g1,g2,g3⟩
theorem VF {w:World} {ok:Nat->Prop} {x0 x1 x2:IV} {args:List Value} (h:bh w ok [[x0],[x1],[x2]] args): ∃v0 v1 v2,args=[v0,v1,v2]/\RV w ok x0 v0/\RV w ok x1 v1/\RV w ok x2 v2:=by
 obtain ⟨hl,hr⟩:=h
 match args,hl with
 | [v0,v1,v2],_=>
   have key: ∀{x:IV} {v:Value},ArgRel w ok [x] v->RV w ok x v:=fun h=>by
    rcases h with ⟨y,e,h⟩ | ⟨h,_⟩
    ·cases e;exact h
    ·simp at h
   exact ⟨v0,v1,v2,rfl,key (hr 0 _ _ rfl rfl),key (hr 1 _ _ rfl rfl),key (hr 2 _ _ rfl rfl)⟩
theorem Q0 {w:World} {ok:Nat->Prop} {x0 x1:IV} {args:List Value} (h:bh w ok [[x0],[x1]] args): ∃v0 v1,args=[v0,v1]/\RV w ok x0 v0/\RV w ok x1 v1:=by
 obtain ⟨hl,hr⟩:=h
 match args,hl with
 | [v0,v1],_=>
   have key: ∀{x:IV} {v:Value},ArgRel w ok [x] v->RV w ok x v:=fun h=>by
    rcases h with ⟨y,e,h⟩ | ⟨h,_⟩
    ·cases e;exact h
    ·simp at h
   exact ⟨v0,v1,rfl,key (hr 0 _ _ rfl rfl),key (hr 1 _ _ rfl rfl)⟩
theorem M0 {P:Program} {g:FuncId} (H: ∀(w:World) (A:Option Addr) (b off cap:Nat) (ps:List (Int×Int)) (ss:Nat->ByteArray) (fs:Nat->Nat),(0 < ps.length->A=some ⟨b,off,none⟩)->(0 < ps.length->b < w.heap.size)->ps.length<=2 ^ 40->
   (∀p∈ps,(Lit.int .i64 p.1).wf=true/\(Lit.int .i64 p.2).wf=true)->zM w b off ps ss fs-> ∀x y:Int,(Lit.int .i64 y).wf=true->
   Calls P g #[.slice A ps.length cap,.int .i64 x,.int .i64 y] w fun e W'=>e= .returned (.bool ((upto (lD ps) (cA ps).length y).contains x))/\Below w.heap.size w W'):
  ah P g ⟨.pure,true,[1],0,fun l=>match l with | [[x0],[x1],[x2]]=>Hn x0 x1 x2 | _=>none⟩:=by
 have hS: ∀x0 x1 x2 r,Hn x0 x1 x2=some r-> ∃es a b ps,x0= .lst es/\x1= .int .i64 a/\x2= .int .i64 b/\es.length<=2 ^ 40/\(Lit.int .i64 b).wf=true/\es.mapM EN=some ps/\r=[.bool ((upto (lD ps) (cA ps).length b).contains a)]:=by
  intro x0 x1 x2 r h
  unfold Hn at h
  split at h
  ·split at h
   ·rename_i hw
    obtain ⟨ps,h1,h2⟩:=Option.map_eq_some_iff.1 h
    exact ⟨_,_,_,ps,rfl,rfl,rfl,hw.1,hw.2,h1,h2.symm⟩
   ·cases h
  ·cases h
 refine ⟨fun W OK w ok ags args r hk hok hargs hr=> ?_,fun _ ags r hr x hx=> ?_⟩
 ·dsimp only at hr ⊢
  split at hr
  ·rename_i x0 x1 x2
   obtain ⟨es,a,b,ps,rfl,rfl,rfl,hmax,hwb,hps,rfl⟩:=hS _ _ _ _ hr
   obtain ⟨v0,v1,v2,rfl,r0,r1,r2⟩:=VF hargs
   cases r1;cases r2
   obtain ⟨A,cap,bb,off,ss,fs,rfl,hA,hb,hwf,hat⟩:=Ue hok r0 hps
   refine (H w A bb off cap ps ss fs hA hb (by rw [Hf hps];exact hmax) hwf hat a b hwb).mono ?_
   rintro e W' ⟨rfl,hB⟩
   exact ⟨_,rfl,hB,.inl ⟨rfl,.bool _⟩⟩
  ·cases hr
 ·dsimp only at hr
  split at hr
  ·obtain ⟨es,a,b,ps,rfl,rfl,rfl,_,_,_,rfl⟩:=hS _ _ _ _ hr
   simp at hx;subst hx;rfl
  ·cases hr
theorem H4 {e:List IV} {s:StepV} (h:Qx e=some s):e=s.ivs:=by
 unfold Qx at h
 split at h
 ·cases h;rfl
 ·cases h
def StepV.at (s:StepV) (w:World) (b off:Nat):Prop:=
 w.cell? ⟨b,off,none⟩=some (.int .i64 s.i0)/\w.cell? ⟨b,off+1,none⟩=some (.int .i64 s.i1)/\w.cell? ⟨b,off+2,none⟩=some (.int .i64 s.i2)/\w.cell? ⟨b,off+3,none⟩=some (.int .i64 s.i3)/\
 w.cell? ⟨b,off+4,none⟩=some (.string s.s4)/\w.cell? ⟨b,off+5,none⟩=some (.float .f64 s.f5)/\w.cell? ⟨b,off+6,none⟩=some (.bool s.b6)/\w.cell? ⟨b,off+7,none⟩=some (.bool s.b7)/\
 w.cell? ⟨b,off+8,none⟩=some (.int .i64 s.i8)/\w.cell? ⟨b,off+9,none⟩=some (.int .i64 s.i9)/\w.cell? ⟨b,off+10,none⟩=some (.string s.s10)/\w.cell? ⟨b,off+11,none⟩=some (.float .f64 s.f11)
theorem Wu {w:World} {ok:Nat->Prop} (hok: ∀b,ok b->b < w.heap.size) {es:List (List IV)} {v:Value} (r:RV w ok (.lst es) v) {ss:List StepV} (h:es.mapM Qx=some ss):
  ∃(A:Option Addr) (cap b off:Nat),v= .slice A ss.length cap/\(0 < ss.length->A=some ⟨b,off,none⟩)/\(0 < ss.length->b < w.heap.size)/\ ∀(j:Nat) (s:StepV),ss[j]? =some s->s.at w b (off+j*12):=by
 obtain ⟨hl,hg⟩:=xE h
 have hlen: ∀e∈es,e.length=12:=fun e he=>by
  obtain ⟨i,hi⟩:=List.mem_iff_getElem?.1 he
  obtain ⟨p,_,hp⟩:=hg i e hi
  rw [H4 hp];rfl
 obtain ⟨A,cap,b,off,hv,hA,hc⟩:=CN hok r (by decide) hlen
 refine ⟨A,cap,b,off,by rw [hl];exact hv,fun h=>(hA (by omega)).1,fun h=>(hA (by omega)).2,fun j s hj=> ?_⟩
 have hi2:j < es.length:=by rw [<-hl];exact (List.getElem?_eq_some_iff.1 hj).1
 have he:=List.getElem?_eq_getElem hi2
 obtain ⟨p',h1,h2⟩:=hg j _ he
 rw [hj] at h1;cases h1
 rw [H4 h2] at he
 obtain ⟨u0,g0,k0⟩:=hc j 0 _ _ he rfl
 obtain ⟨u1,g1,k1⟩:=hc j 1 _ _ he rfl
 obtain ⟨u2,g2,k2⟩:=hc j 2 _ _ he rfl
 obtain ⟨u3,g3,k3⟩:=hc j 3 _ _ he rfl
 obtain ⟨u4,g4,k4⟩:=hc j 4 _ _ he rfl
 obtain ⟨u5,g5,k5⟩:=hc j 5 _ _ he rfl
 obtain ⟨u6,g6,k6⟩:=hc j 6 _ _ he rfl
 obtain ⟨u7,g7,k7⟩:=hc j 7 _ _ he rfl
 obtain ⟨u8,g8,k8⟩:=hc j 8 _ _ he rfl
 obtain ⟨u9,g9,k9⟩:=hc j 9 _ _ he rfl
 obtain ⟨u10,g10,k10⟩:=hc j 10 _ _ he rfl
 obtain ⟨u11,g11,k11⟩:=hc j 11 _ _ he rfl
 cases k0;cases k1;cases k2;cases k3;cases k4;cases k5;cases k6;cases k7;cases k8;cases k9;cases k10;cases k11
 exact ⟨g0,g1,g2,g3,g4,g5,g6,g7,g8,g9,g10,g11⟩
theorem Hh {U:List (List IV)->Option (List IV)} {x y:IV}: ∀{ss:List StepV},pI U ss x=some y-> ∀k,k<=ss.length-> ∃z,pI U (ss.drop k) x=some z
 | ss,h,0,_=>⟨y,h⟩
 | [],h,k+1,hk=>by simp at hk
 | s::ss,h,k+1,hk=>by
   unfold pI at h
   obtain ⟨z,h1,h2⟩:=Option.bind_eq_some_iff.1 h
   exact Hh h1 k (by simpa using hk)
theorem U8 {U:List (List IV)->Option (List IV)} {l:List (List IV)}: ∀{ss:List StepV} {y:IV},pI U ss (.lst l)=some y-> ∃m,y= .lst m
 | [],y,h=>⟨l,by simpa [pI] using h.symm⟩
 | s::ss,y,h=>by
   unfold pI at h
   obtain ⟨z,h1,h2⟩:=Option.bind_eq_some_iff.1 h
   split at h2
   ·cases h2;exact ⟨_,rfl⟩
   ·cases h2
theorem RL {P:Program} {g:FuncId} {U:List (List IV)->Option (List IV)} (H: ∀(w:World) (ok:Nat->Prop),(∀b,ok b->b < w.heap.size)-> ∀(A:Option Addr) (b off cap:Nat) (ss:List StepV),(0 < ss.length->A=some ⟨b,off,none⟩)->ss.length<=2 ^ 40->(0 < ss.length->b < w.heap.size)->
  (∀(j:Nat) (s:StepV),ss[j]? =some s->s.at w b (off+j*12))-> ∀f:Nat->IV,(∀(k:Nat) (s:StepV),ss[k]? =some s->U [[f (k+1)],s.ivs]=some [f k])-> ∀(A2:Option Addr) (n2 c2:Nat),RV w ok (f ss.length) (.slice A2 n2 c2)->(∀k v w' ok',k<=ss.length->RV w' ok' (f k) v-> ∃A n c,v= .slice A n c)->
  Calls P g #[.slice A2 n2 c2,.slice A ss.length cap] w fun e W'=> ∃v,e= .returned v/\Below w.heap.size w W'/\RV W' (sj w ok W') (f 0) v):
  ah P g ⟨.pure,false,[1],0,fun l=>match l with | [[x0],[x1]]=>TG U x0 x1 | _=>none⟩:=by
 refine ⟨fun W OK w ok ags args r hk hok hargs hr=> ?_,fun h=>(by cases h)⟩
 dsimp only at hr ⊢
 split at hr
 ·rename_i x0 x1
  obtain ⟨v0,v1,rfl,r0,r1⟩:=Q0 hargs
  unfold TG at hr
  split at hr
  ·rename_i l es
   split at hr
   ·rename_i hmax
    obtain ⟨ss,h1,h2⟩:=Option.bind_eq_some_iff.1 hr
    obtain ⟨y,h3,rfl⟩:=Option.map_eq_some_iff.1 h2
    obtain ⟨A,cap,b,off,rfl,hA,hb,hc⟩:=Wu hok r1 h1
    have hl:=(xE h1).1
    have hdr:=fun k hk=>Hh h3 k hk
    have hf0: ∀(k:Nat) (s:StepV),ss[k]? =some s->U [[(pI U (ss.drop (k+1)) (.lst l)).getD .nilp],s.ivs]=some [(pI U (ss.drop k) (.lst l)).getD .nilp]:=by
     intro k s hs
     have hk:k < ss.length:=(List.getElem?_eq_some_iff.1 hs).1
     obtain ⟨z,hz⟩:=hdr k (by omega)
     have hdk:ss.drop k=s::ss.drop (k+1):=by
      rw [List.drop_eq_getElem_cons hk]
      congr 1
      rw [List.getElem?_eq_getElem hk] at hs
      exact Option.some.inj hs
     rw [hz]
     rw [hdk] at hz
     unfold pI at hz
     obtain ⟨z1,h5,h6⟩:=Option.bind_eq_some_iff.1 hz
     rw [h5]
     simp only [Option.getD_some]
     split at h6
     ·rename_i y hy
      cases h6;exact hy
     ·cases h6
    cases r0 with
    | lst es2 A2 c2 sz vals hcap hsz hmem hrel=>
    refine (H w ok hok A b off cap ss hA (by rw [hl];exact hmax) hb hc (fun k=>(pI U (ss.drop k) (.lst l)).getD .nilp) hf0 A2 l.length c2 ?_ ?_).mono ?_
    ·simp only [List.drop_length,pI,Option.getD_some]
     exact .lst _ _ _ sz vals hcap hsz hmem hrel
    ·intro k v w' ok' hk r
     obtain ⟨z,hz⟩:=hdr k hk
     obtain ⟨m,rfl⟩:=U8 hz
     rw [hz] at r
     simp only [Option.getD_some] at r
     cases r
     exact ⟨_,_,_,rfl⟩
    ·rintro e W' ⟨v,rfl,hB,hv⟩
     refine ⟨v,rfl,hB,.inl ⟨rfl,?_⟩⟩
     simp only [List.drop_zero,h3,Option.getD_some] at hv
     exact hv
   ·cases hr
  ·cases hr
 ·cases hr
theorem vS {w:World} {B e:Nat} {v:Value} {zs:List Int} {ok:Nat->Prop} (hr:w.ownsRow B e 1 v zs.length (zs.map fun z=> .int .i64 z)) (hok: ∀b,B<=b->b < w.heap.size->ok b):RV w ok (Gq zs) v:=by
 obtain ⟨h0,⟨rfl,h1⟩ | ⟨g,cap,cur,rfl,h1,h2,h3,_,h4,h5⟩⟩:=hr
 ·have:zs=[]:=List.length_eq_zero_iff.1 h1
  subst this
  exact .lst [] none 0 1 (fun _ _=>undef) (by simp) (by simp) (fun i j hi=>by simp at hi) (fun i j e c h=>by simp at h)
 ·have hlen:(zs.map fun z=>[IV.int .i64 z]).length=zs.length:=by simp
  have key:RV w ok (Gq zs) (.slice (some ⟨g,0,none⟩) (zs.map fun z=>[IV.int .i64 z]).length cap):=by
   refine .lst _ _ _ 1 (fun i _=> .int .i64 (zs.getD i 0)) (by rw [hlen];exact h3) (fun c hc=> ?_) (fun i j hi hj=> ?_) (fun i j c x g1 g2=> ?_)
   ·obtain ⟨z,_,rfl⟩:=List.mem_map.1 hc;rfl
   ·rw [hlen] at hi
    refine ⟨_,rfl,hok g h1 (Array.getElem?_eq_some_iff.1 h2).1,?_⟩
    obtain rfl:j=0:=by omega
    rw [cg,eu h2]
    have h6:(cur.toList.take (zs.length*1))[i]? =some (.int .i64 zs[i]):=by rw [h5];simp [hi]
    rw [List.getElem?_take_of_lt (by omega)] at h6
    simpa [List.getD_eq_getElem?_getD,hi] using h6
   ·rw [List.getElem?_map] at g1
    cases hz:zs[i]? with
    | none=>rw [hz] at g1;cases g1
    | some z=>
      rw [hz] at g1;cases g1
      cases j with
      | zero=>cases g2;simp only [List.getD_eq_getElem?_getD,hz,Option.getD_some];exact .int _ _
      | succ j=>simp at g2
  rw [hlen] at key
  exact key
def YI (ob:Nat->Bool) (ps:List (Int×Int)) (k:Nat):Prop:= ∀j,j < k->ob j=true/\ ∀p q,0 < j->ps[j - 1]? =some p->ps[j]? =some q->p.1 < q.1
theorem Ag (ob:Nat->Bool): ∀(ps:List (Int×Int)) (i:Nat),vN ob ps i=true↔ ∀j,j < ps.length->ob (i+j)=true/\ ∀p q,0 < j->ps[j - 1]? =some p->ps[j]? =some q->p.1 < q.1
 | [],i=>by simp [vN]
 | [p],i=>by
   simp only [vN,List.length_singleton]
   constructor
   ·intro h j hj
    obtain rfl:j=0:=by omega
    exact ⟨by simpa using h,fun p q h0=>by omega⟩
   ·intro h
    simpa using (h 0 (by omega)).1
 | p::q::l,i=>by
   simp only [vN,Bool.and_eq_true,decide_eq_true_eq]
   rw [Ag ob (q::l) (i+1)]
   constructor
   ·rintro ⟨h1,h2,h3⟩ j hj
    cases j with
    | zero=>exact ⟨by simpa using h1,fun p q h0=>by omega⟩
    | succ j=>
      obtain ⟨h4,h5⟩:=h3 j (by simpa using hj)
      refine ⟨by rw [show i+(j+1)=i+1+j by omega];exact h4,fun a c _ ha hc=> ?_⟩
      cases j with
      | zero=>simp at ha hc;subst ha;subst hc;exact h2
      | succ j=>exact h5 a c (by omega) (by simpa using ha) (by simpa using hc)
   ·intro h
    refine ⟨by simpa using (h 0 (by simp)).1,(h 1 (by simp)).2 p q (by omega) rfl rfl,fun j hj=> ?_⟩
    obtain ⟨h4,h5⟩:=h (j+1) (by simpa using hj)
    refine ⟨by rw [show i+1+j=i+(j+1) by omega];exact h4,fun a c h0 ha hc=> ?_⟩
    refine h5 a c (by omega) ?_ (by simpa using hc)
    cases j with
    | zero=>omega
    | succ j=>simpa using ha
theorem xj {ob:Nat->Bool} {ps:List (Int×Int)}:vN ob ps 0=true↔YI ob ps ps.length:=by
 rw [Ag]
 simp only [Nat.zero_add]
 rfl
end Go.AM
namespace Go.AM
open Go.RowKit
theorem Wj {w:World} {ok:Nat->Prop} (hok: ∀b,ok b->b < w.heap.size) {es:List (List IV)} {v:Value} (r:RV w ok (.lst es) v) {ps:List (Int×Int)} (h:es.mapM EN=some ps):
  ∃(A:Option Addr) (cap b off:Nat) (ss:Nat->ByteArray) (fs:Nat->Nat),v= .slice A ps.length cap/\(0 < ps.length->A=some ⟨b,off,none⟩)/\(0 < ps.length->b < w.heap.size)/\(∀p∈ps,(Lit.int .i64 p.1).wf=true/\(Lit.int .i64 p.2).wf=true)/\zM w b off ps ss fs/\
   ∀(j:Nat) (p:Int×Int),ps[j]? =some p->es[j]? =some [.int .i64 p.1,.int .i64 p.2,.str (ss j),.flt .f64 (fs j)]:=by
 obtain ⟨hl,hg⟩:=xE h
 have hlen: ∀e∈es,e.length=4:=fun e he=>by
  obtain ⟨i,hi⟩:=List.mem_iff_getElem?.1 he
  obtain ⟨p,_,hp⟩:=hg i e hi
  obtain ⟨s,r,rfl,_⟩:=nb hp
  rfl
 obtain ⟨A,cap,b,off,hv,hA,hc⟩:=CN hok r (by decide) hlen
 refine ⟨A,cap,b,off,fun j=>strOf (((es.getD j []).getD 2 .nilp)),fun j=>YD (((es.getD j []).getD 3 .nilp)),by rw [hl];exact hv,fun h=>(hA (by omega)).1,fun h=>(hA (by omega)).2,fun p hp=> ?_,fun j p hj=> ?_,fun j p hj=> ?_⟩
 ·obtain ⟨i,hi⟩:=List.mem_iff_getElem?.1 hp
  have hi2:i < es.length:=by rw [<-hl];exact (List.getElem?_eq_some_iff.1 hi).1
  obtain ⟨p',h1,h2⟩:=hg i _ (List.getElem?_eq_getElem hi2)
  rw [hi] at h1;cases h1
  obtain ⟨s,r,_,h3,h4⟩:=nb h2
  exact ⟨h3,h4⟩
 ·have hi2:j < es.length:=by rw [<-hl];exact (List.getElem?_eq_some_iff.1 hj).1
  have he:=List.getElem?_eq_getElem hi2
  obtain ⟨p',h1,h2⟩:=hg j _ he
  rw [hj] at h1;cases h1
  obtain ⟨s,r,h5,_⟩:=nb h2
  rw [h5] at he
  have hget:es.getD j []=[.int .i64 p.1,.int .i64 p.2,.str s,.flt .f64 r]:=by rw [List.getD_eq_getElem?_getD,he];rfl
  simp only [hget]
  obtain ⟨u0,g0,k0⟩:=hc j 0 _ _ he rfl
  obtain ⟨u1,g1,k1⟩:=hc j 1 _ _ he rfl
  obtain ⟨u2,g2,k2⟩:=hc j 2 _ _ he rfl
  obtain ⟨u3,g3,k3⟩:=hc j 3 _ _ he rfl
  cases k0;cases k1;cases k2;cases k3
  exact ⟨g0,g1,g2,g3⟩
 ·have hi2:j < es.length:=by rw [<-hl];exact (List.getElem?_eq_some_iff.1 hj).1
  have he:=List.getElem?_eq_getElem hi2
  obtain ⟨p',h1,h2⟩:=hg j _ he
  rw [hj] at h1;cases h1
  obtain ⟨s,r,h5,_⟩:=nb h2
  rw [h5] at he
  have hget:es.getD j []=[.int .i64 p.1,.int .i64 p.2,.str s,.flt .f64 r]:=by rw [List.getD_eq_getElem?_getD,he];rfl
  simp only [hget]
  exact he
theorem Xm {w:World} {ok:Nat->Prop} {x0:IV} {args:List Value} (h:bh w ok [[x0]] args): ∃v0,args=[v0]/\RV w ok x0 v0:=by
 obtain ⟨hl,hr⟩:=h
 match args,hl with
 | [v0],_=>
   rcases hr 0 _ _ rfl rfl with ⟨y,e,h⟩ | ⟨h,_⟩
   ·cases e;exact ⟨v0,rfl,h⟩
   ·simp at h
theorem Ux {O:List (List IV)->Option (List IV)} {e:List IV} {b:Bool} (h:S4 O e=some b):O [e]=some [.bool b]:=by
 unfold S4 at h
 split at h
 ·rename_i c hc;cases h;exact hc
 ·cases h
theorem UD {P:Program} {one:FuncId} {sc:Bool} {O:List (List IV)->Option (List IV)} (hO:ah P one ⟨.pure,sc,[1],0,O⟩) (p:Int×Int) (s:ByteArray) (f:Nat) (b:Bool) (h:O [[.int .i64 p.1,.int .i64 p.2,.str s,.flt .f64 f]]=some [.bool b]) (W:World):
  Calls P one #[.agg #[.int .i64 p.1,.int .i64 p.2,.string s,.float .f64 f]] W fun e W'=>e= .returned (.bool b)/\Below W.heap.size W W':=by
 refine (hO.1 W (fun _=>False) W (fun _=>False) [[.int .i64 p.1,.int .i64 p.2,.str s,.flt .f64 f]] [.agg #[.int .i64 p.1,.int .i64 p.2,.string s,.float .f64 f]] _ ?_ (fun b hb=>hb.elim) ?_ h).mono ?_
 ·exact Keeps.refl _ _
 ·refine ⟨rfl,fun i c v hc hv=> ?_⟩
  match i,hc,hv with
  | 0,hc,hv=>
    cases hc;cases hv
    refine .inr ⟨by simp,_,rfl,rfl,fun i x u hx hu=> ?_⟩
    match i,hx,hu with
    | 0,hx,hu=>cases hx;cases hu;exact .int _ _
    | 1,hx,hu=>cases hx;cases hu;exact .int _ _
    | 2,hx,hu=>cases hx;cases hu;exact .str _
    | 3,hx,hu=>cases hx;cases hu;exact .flt _ _
    | (k+4),hx,_=>simp at hx
  | (k+1),hc,_=>simp at hc
 ·rintro e W' ⟨v,rfl,hB,(⟨_,hv⟩ | ⟨h2,_⟩)⟩
  ·have:RV W' (sj W (fun _=>False) W') (.bool b) v:=hv
   cases this
   exact ⟨rfl,hB⟩
  ·simp at h2
theorem Ts {P:Program} {g one:FuncId} {sc:Bool} {O:List (List IV)->Option (List IV)} (hO:ah P one ⟨.pure,sc,[1],0,O⟩)
  (H: ∀(w:World) (A:Option Addr) (b off cap:Nat) (ps:List (Int×Int)) (ss:Nat->ByteArray) (fs:Nat->Nat) (ob:Nat->Bool),(0 < ps.length->A=some ⟨b,off,none⟩)->(0 < ps.length->b < w.heap.size)->ps.length<=2 ^ 40->
    (∀p∈ps,(Lit.int .i64 p.1).wf=true/\(Lit.int .i64 p.2).wf=true)->zM w b off ps ss fs->
    (∀(j:Nat) (p:Int×Int) (W:World),ps[j]? =some p->Calls P one #[.agg #[.int .i64 p.1,.int .i64 p.2,.string (ss j),.float .f64 (fs j)]] W fun e W'=>e= .returned (.bool (ob j))/\Below W.heap.size W W')->
    Calls P g #[.slice A ps.length cap] w fun e W'=>e= .returned (.bool (vd ob ps))/\Below w.heap.size w W'):
  ah P g ⟨.pure,true,[1],0,fun l=>match l with | [[x0]]=>UJ O x0 | _=>none⟩:=by
 have hS: ∀x0 r,UJ O x0=some r-> ∃es ps bs,x0= .lst es/\es.length<=2 ^ 40/\es.mapM EN=some ps/\es.mapM (S4 O)=some bs/\r=[.bool (vd (fun i=>bs.getD i false) ps)]:=by
  intro x0 r h
  unfold UJ at h
  split at h
  ·split at h
   ·rename_i hw
    obtain ⟨ps,h1,h2⟩:=Option.bind_eq_some_iff.1 h
    obtain ⟨bs,h3,h4⟩:=Option.map_eq_some_iff.1 h2
    exact ⟨_,ps,bs,rfl,hw,h1,h3,h4.symm⟩
   ·cases h
  ·cases h
 refine ⟨fun W OK w ok ags args r hk hok hargs hr=> ?_,fun _ ags r hr x hx=> ?_⟩
 ·dsimp only at hr ⊢
  split at hr
  ·rename_i x0
   obtain ⟨es,ps,bs,rfl,hmax,hps,hbs,rfl⟩:=hS _ _ hr
   obtain ⟨v0,rfl,r0⟩:=Xm hargs
   obtain ⟨A,cap,bb,off,ss,fs,rfl,hA,hb,hwf,hat,hes⟩:=Wj hok r0 hps
   refine (H w A bb off cap ps ss fs (fun i=>bs.getD i false) hA hb (by rw [Hf hps];exact hmax) hwf hat fun j p W hj=> ?_).mono ?_
   ·have he:=hes j p hj
    obtain ⟨c,h1,h2⟩:=(xE hbs).2 j _ he
    have h3:=Ux h2
    have h4:bs.getD j false=c:=by rw [List.getD_eq_getElem?_getD,h1];rfl
    rw [h4]
    exact UD hO p _ _ c h3 W
   ·rintro e W' ⟨rfl,hB⟩
    exact ⟨_,rfl,hB,.inl ⟨rfl,.bool _⟩⟩
  ·cases hr
 ·dsimp only at hr
  split at hr
  ·obtain ⟨es,ps,bs,rfl,hmax,hps,hbs,rfl⟩:=hS _ _ hr
   simp only [List.mem_singleton] at hx;subst hx;rfl
  ·cases hr
end Go.AM
namespace Go.AM
open Go.RowKit
theorem Cv {P:Program} {ops:Array Oper} {o:Oper} {a:Act} {w:World} {K:Act->World->Prop} {Q:Exit->Act->World->Prop} {E:Prop}
  (hg:o.guard=none) (d x:Operand) (dT sT:TypeId) (hop:o.op=Op.call { callee:=Callee.builtin Builtin.append,args:= #[d,x],argTypes:= #[dT,sT] })
  (v u:Value) (hd:a.eval d=v) (hx:a.eval x=u) {v':Value} {w':World} (hr:(Builtin.append_ #[dT,sT] o.type #[v,u]).run P w= .ok v' w') (hK:K (a.put o.dst v') w'):
  if Region.wanted o (yielded ops a.tmps)=true then Oper.wp P o a w K Q else E:=by
 have hw:Region.wanted o (yielded ops a.tmps)=true:=by simp [Region.wanted,hg]
 rw [if_pos hw]
 unfold Oper.wp
 simp [execOp,hop,resolve,invoke,builtin,hd,hx,hr,Result.andThen]
 exact hK
structure DeleteWalks (P:Program) (g:FuncId) (t:TypeId) (sz:Nat):Prop where
 same: ∀(w:World) (A:Option Addr) (n c i:Nat),i<=n->n<=c->Calls P g #[.slice A n c,.int .i64 i,.int .i64 i] w fun e w'=>e= .returned (.slice A n c)/\w'=w
 cut: ∀(w:World) (b off n c i j:Nat),i < j->j<=n->n<=c->n<=2 ^ 40-> ∀(w1 w2:World),
  (Builtin.append_ #[t,t] t #[.slice (some ⟨b,off,none⟩) i c,.slice (if c=j then some ⟨b,off,none⟩ else some ⟨b,off+j*sz,none⟩) (n - j) (c - j)]).run P w.drew= .ok (.slice (some ⟨b,off,none⟩) (i+(n - j)) c) w1->
  (∀ty,(Builtin.clear_ #[t] ty #[.slice (some ⟨b,off+(i+(n - j))*sz,none⟩) (n - (i+(n - j))) (c - (i+(n - j)))]).run P w1= .ok (.tuple #[]) w2)->
  Calls P g #[.slice (some ⟨b,off,none⟩) n c,.int .i64 i,.int .i64 j] w fun e w'=>e= .returned (.slice (some ⟨b,off,none⟩) (i+(n - j)) c)/\w'=w2
theorem Mn {x i j:IV} {r:List IV} (h:Bf x i j=some r): ∃es a b,x= .lst es/\i= .int .i64 ((a:Nat):Int)/\j= .int .i64 ((b:Nat):Int)/\a<=b/\b<=es.length/\es.length<=2 ^ 40/\r=[.lst (es.take a++es.drop b)]:=by
 unfold Bf at h
 split at h
 ·rename_i es i j
  split at h
  ·rename_i hc
   cases h
   obtain ⟨h0,h1,h2,h3⟩:=hc
   refine ⟨es,i.toNat,j.toNat,rfl,by rw [Int.toNat_of_nonneg h0],by rw [Int.toNat_of_nonneg (by omega)],by omega,by omega,h3,rfl⟩
  ·cases h
 ·cases h
theorem Rows.take {w:World} {ok:Nat->Prop} {es:List (List IV)} {sz k:Nat} {us:List Value} (h1:Rows w ok es sz us) (he: ∀e∈es,e.length=sz) (hk:k<=es.length):Rows w ok (es.take k) sz (us.take (k*sz)):=by
 refine ⟨?_,fun v hv=>h1.2.1 v (List.mem_of_mem_take hv),fun i j e x hi hj=> ?_⟩
 ·simp only [List.length_take,h1.1,Nat.min_eq_left hk]
  exact Nat.min_eq_left (Nat.mul_le_mul_right _ hk)
 ·have hik:i < k:=by have:=(List.getElem?_eq_some_iff.1 hi).1;simp at this;omega
  rw [List.getElem?_take_of_lt hik] at hi
  have hjl:j < sz:=by rw [<-he e (List.mem_of_getElem? hi)];exact (List.getElem?_eq_some_iff.1 hj).1
  obtain ⟨v,hv,hr⟩:=h1.2.2 i j e x hi hj
  exact ⟨v,by rw [List.getElem?_take_of_lt (wY hik hjl)];exact hv,hr⟩
theorem Rows.drop {w:World} {ok:Nat->Prop} {es:List (List IV)} {sz k:Nat} {us:List Value} (h1:Rows w ok es sz us):Rows w ok (es.drop k) sz (us.drop (k*sz)):=by
 refine ⟨?_,fun v hv=>h1.2.1 v (List.mem_of_mem_drop hv),fun i j e x hi hj=> ?_⟩
 ·simp only [List.length_drop,h1.1,Nat.sub_mul]
 ·rw [List.getElem?_drop] at hi
  obtain ⟨v,hv,hr⟩:=h1.2.2 (k+i) j e x hi hj
  exact ⟨v,by rw [List.getElem?_drop,<-Nat.add_assoc,<-Nat.add_mul];exact hv,hr⟩
theorem U4 {w w':World} {ok:Nat->Prop} {sz:Nat} {b base:Nat} {es:List (List IV)} {us:List Value} {c2:Nat} {c0 c:Array Value} {T:TypeId} (hnok: ¬ok b)
  (hos:w'.os=w.os) (htp:w'.tape=w.tape) (hout:w'.output=w.output) (hsize:w'.heap.size=w.heap.size) (hold: ∀b',b'≠b->w'.heap[b']? =w.heap[b']?) (hw0:w.heap[b]? =some (.cells c0 T (0,0))) (hw:w'.heap[b]? =some (.cells c T (0,0))) (hcs:c.size=c0.size)
  (he: ∀e∈es,e.length=sz) (h1:Rows w ok es sz us) (g1: ∀q,q < us.length->c[base+q]? =us[q]?) (hcap:es.length<=c2) (hroom:base+c2*sz<=c0.size) {n:Nat} (hn:es.length=n) (hpos:0 < sz:=by assumption):
  Cf w ok sz (some (b,base)) es (.returned (.slice (some ⟨b,base,none⟩) n c2)) w':=by
 have hkeep:Keeps w ok w' ok:=⟨fun b' hb=>hold b' fun e=>hnok (e▸hb),fun _ h=>h⟩
 refine ⟨_,⟨some (b,base),n,sz⟩,rfl,hos,htp,hout,by omega,fun b' c' T' z' hb=> ?_,fun b' hb hne=>hold b' fun e=>hne base (by rw [e]),?_,fun b' base' hb=> ?_⟩
 ·by_cases e:b'=b
  ·subst e
   rw [hw0] at hb;cases hb
   exact ⟨c,_,hw,hcs⟩
  ·exact ⟨c',z',by rw [hold b' e];exact hb,rfl⟩
 ·exact IG hw he (h1.later hkeep) g1 hn (by omega) (by omega)
 ·cases hb
  exact .inr ⟨base,rfl⟩
theorem Ut {P:Program} {w:World} {t e:TypeId} (hu:P.underlying t=some (.slice e)) (hel:kM P e=true) (hz1:(match gh P e with | some z=>z.cells.all (·.oneCell') | none=>false)=true) {b o n c:Nat} (hn:0 < n) {cs:Array Value} {T:TypeId} (hw:w.heap[b]? =some (.cells cs T (0,0))) (hroom:o+n*P.cellsOf e<=cs.size):
  ∃zs:List Value,zs.length=n*P.cellsOf e/\ ∀ty,(Builtin.clear_ #[t] ty #[.slice (some ⟨b,o,none⟩) n c]).run P w= .ok (.tuple #[]) (w.setRow b (aK cs.toList o zs).toArray):=by
 obtain ⟨i,z,hi,hz,hzs,hpos,_,_⟩:=e8 hel
 have hzt:gh P e=some z:=by unfold gh;rw [hi];exact hz
 rw [hzt] at hz1
 have hzv: ∀w':World,(zeroValue e).run P w'= .ok z w':=fun w'=>by simp [zeroValue,run_typeInfo w' hi,hz]
 have hl:(Builtin.zeroCells z.cells n).toList.length=n*P.cellsOf e:=by simp [lS,hzs]
 refine ⟨(Builtin.zeroCells z.cells n).toList,hl,fun ty=> ?_⟩
 have h1: ∀v∈(Builtin.zeroCells z.cells n).toList,v.oneCell'=true:=by
  intro v hv
  simp only [Builtin.zeroCells,Array.toList_map,List.mem_map,Array.toList_range] at hv
  obtain ⟨q,hq,rfl⟩:=hv
  have hqs:q % z.cells.size < z.cells.size:=Nat.mod_lt _ (by omega)
  rw [getElem!_pos z.cells _ hqs]
  rw [Array.all_eq_true] at hz1
  exact hz1 _ hqs
 have hst:=run_storeCells_at (P:=P) b o T (Builtin.zeroCells z.cells n).toList 0 cs w hw (by omega) h1
 simp only [Nat.add_zero] at hst
 obtain ⟨m,rfl⟩: ∃m,n=m+1:=⟨n - 1,by omega⟩
 simp only [Builtin.clear_,Sem.run_bind,run_underlying hu,Result.andThen_ok,List.getElem?_toArray,List.getElem?_cons_zero,hzv]
 rw [hst]
 rfl
theorem Gs {P:Program} {g:FuncId} {t e:TypeId} {sz:Nat} (h0:P.underlying t=some (.slice e)) (hel:kM P e=true) (hsz:P.cellsOf e=sz) (hz1:(match gh P e with | some z=>z.cells.all (·.oneCell') | none=>false)=true) (W:DeleteWalks P g t sz):
  ah P g ⟨.cons,false,[1],sz,fun l=>match l with | [[x0],[x1],[x2]]=>Bf x0 x1 x2 | _=>none⟩:=by
 obtain ⟨ii,zz,hii,hzz,hzs,hpos,hisz,hbt⟩:=e8 hel
 rw [hsz] at hpos hzs hisz
 unfold ah
 simp only
 intro w ok ags x v0 pl args r hok hown hnok hargs hr
 split at hr
 ·rename_i x0 x1 x2 heq
  obtain ⟨rfl,rfl⟩:x=x0/\ags=[[x1],[x2]]:=by simpa using heq
  obtain ⟨es,i,j,rfl,rfl,rfl,hij,hj,hmax,rfl⟩:=Mn hr
  obtain ⟨hl,hrel⟩:=hargs
  match args,hl with
  | [v1,v2],_=>
  have hv1:v1= .int .i64 ((i:Nat):Int):=by
   rcases hrel 0 _ v1 rfl rfl with ⟨y,e1,h1⟩ | ⟨h1,_⟩
   ·cases e1;cases h1;rfl
   ·simp at h1
  have hv2:v2= .int .i64 ((j:Nat):Int):=by
   rcases hrel 1 _ v2 rfl rfl with ⟨y,e1,h1⟩ | ⟨h1,_⟩
   ·cases e1;cases h1;rfl
   ·simp at h1
  subst hv1 hv2
  obtain ⟨hob,A,c,rfl,hh,hc⟩:=hown
  have hown:OwnVal w ok sz (.lst es) (.slice A pl.len c) pl:=⟨hob,A,c,rfl,hh,hc⟩
  obtain ⟨loc,n,sz'⟩:=pl
  obtain ⟨hplsz,es0,he0,hlen,hall,hnone,hcell⟩:=hob.arrN (fun _ h=>by cases h)
  cases he0
  simp only at hplsz hlen hnone hcell hh hc hnok hown ⊢
  subst hplsz
  subst hlen
  show Calls P g #[.slice A es.length c,.int .i64 (i:Int),.int .i64 (j:Int)] w (Cf w ok sz' loc (es.take i++es.drop j))
  by_cases heq:i=j
  ·subst heq
   refine (W.same w A es.length c i hj hh.1).mono ?_
   rintro e' w' ⟨rfl,rfl⟩
   rw [List.take_append_drop]
   exact ⟨_,⟨loc,es.length,sz'⟩,rfl,rfl,rfl,rfl,Nat.le_refl _,.refl _,fun _ _ _=>rfl,hown,fun b base hb=> .inr ⟨base,hb⟩⟩
  have hlt:i < j:=by omega
  have hc0:c≠0:=by have:=hh.1;omega
  rcases hh.2 with ⟨_,h1⟩ | ⟨b,base,hloc,hA⟩
  ·exact absurd h1 hc0
  simp only at hloc
  subst hloc
  simp only [Nat.zero_mul,Nat.add_zero] at hA
  subst hA
  obtain ⟨c1,T,hw,hroom1,hrelc⟩:=hcell b base rfl
  obtain ⟨c1',T',z',hw',hroom⟩:=hc b base rfl
  rw [hw] at hw';cases hw'
  have hbnok:=hnok b base rfl
  have hblt:b < w.heap.size:=(Array.getElem?_eq_some_iff.1 hw).1
  have hold: ∃us,Rows w ok es sz' us/\ ∀q,q < us.length->c1[base+q]? =us[q]? :=by
   have iq:InvQ w ok (fun q=>if q=0 then some ⟨some (b,base),es.length,sz'⟩ else none) [.arr .rw sz' (.lst es)]:=by
    refine ⟨hok,fun o pl ho=> ?_,fun o pl b' base' ho hl=> ?_⟩
    ·split at ho
     ·rename_i e;subst e;cases ho
      exact .inl ⟨by assumption,rfl,es,rfl,rfl,hall,hnone,hcell⟩
     ·cases ho
    ·split at ho
     ·cases ho;cases hl;exact hblt
     ·cases ho
   obtain ⟨A2,cap2,us,hv,h1,h2⟩:=nG iq (p:= .buf 0 es.length) (v:= .slice (some ⟨b,base,none⟩) es.length c) (.buf 0 es.length _ c ⟨some (b,base),es.length,sz'⟩ rfl rfl hh hc) (ys:=es) rfl hpos hall
   obtain ⟨rfl,_,rfl⟩:=Value.slice.inj hv
   refine ⟨us,h1,fun q hq=> ?_⟩
   obtain ⟨ad2,e2,h3⟩:=h2 (by omega)
   cases e2
   have:=h3 q us[q] (List.getElem?_eq_getElem hq)
   rw [cg,eu hw] at this
   rw [this,List.getElem?_eq_getElem hq]
  obtain ⟨us,hus,hcells⟩:=hold
  have hulen:=hus.1
  have hl0:c1.toList.length=c1.size:=by simp
  have hcm:es.length*sz'<=c*sz':=Nat.mul_le_mul_right _ hh.1
  have hdl:(us.drop (j*sz')).length=(es.length - j)*sz':=by rw [List.length_drop,hulen,Nat.sub_mul]
  have hjs:j*sz'<=es.length*sz':=Nat.mul_le_mul_right _ hj
  have his:i*sz'<=j*sz':=Nat.mul_le_mul_right _ hij
  have hsub:(es.length - j)*sz'=es.length*sz' - j*sz':=Nat.sub_mul _ _ _
  have hwd:w.drew.heap[b]? =some (.cells c1 T (0,0)):=hw
  have hn1:(i+(es.length - j))*sz'=i*sz'+(es.length - j)*sz':=Nat.add_mul _ _ _
  have hn2:(es.length - (i+(es.length - j)))*sz'=es.length*sz' - (i+(es.length - j))*sz':=Nat.sub_mul _ _ _
  have hle1:base+i*sz'+(us.drop (j*sz')).length<=c1.toList.length:=by omega
  have happ:=wy (P:=P) (w:=w.drew) (ats:= #[t,t]) (ty:=t) rfl h0 h0 (by rw [hsz];exact hpos) (A:=some ⟨b,base,none⟩) (A':=if c=j then some ⟨b,base,none⟩ else some ⟨b,base+j*sz',none⟩) (n:=i) (cap:=c) (m:=es.length - j) (cap':=c - j) (vs:=us.drop (j*sz')) (by rw [hsz];exact hdl)
   (fun h=>⟨⟨b,base+j*sz',none⟩,by rw [if_neg (by have:=hh.1;omega)],fun q u hq=>by
     rw [cg,eu hwd,Nat.add_assoc]
     rw [List.getElem?_drop] at hq
     rw [hcells _ (List.getElem?_eq_some_iff.1 hq).1];exact hq⟩) (fun v hv=>hus.2.1 v (List.mem_of_mem_drop hv)) (by have:=hh.1;omega) rfl hwd (by rw [hsz,<-hl0];exact hle1)
  rw [hsz] at happ
  have hs1:(aK c1.toList (base+i*sz') (us.drop (j*sz'))).toArray.size=c1.size:=by rw [List.size_toArray,bW hle1,hl0]
  have hwr:=cq (w:=w.drew) (c':=(aK c1.toList (base+i*sz') (us.drop (j*sz'))).toArray) hwd hs1
  obtain ⟨zs,hzl,hclr2⟩:=Ut (P:=P) (w:=w.drew.setRow b (aK c1.toList (base+i*sz') (us.drop (j*sz'))).toArray) (t:=t) h0 hel hz1 (b:=b) (o:=base+(i+(es.length - j))*sz') (n:=es.length - (i+(es.length - j))) (c:=c - (i+(es.length - j))) (by omega) hwr.now (by rw [hs1,hsz];omega)
  rw [hsz] at hzl
  have hle2:base+(i+(es.length - j))*sz'+zs.length<=(aK c1.toList (base+i*sz') (us.drop (j*sz'))).length:=by rw [bW hle1];omega
  have hs2:(aK (aK c1.toList (base+i*sz') (us.drop (j*sz'))) (base+(i+(es.length - j))*sz') zs).toArray.size=(aK c1.toList (base+i*sz') (us.drop (j*sz'))).toArray.size:=by rw [List.size_toArray,bW hle2,List.size_toArray]
  have hwr2:=cq (c':=(aK (aK c1.toList (base+i*sz') (us.drop (j*sz'))) (base+(i+(es.length - j))*sz') zs).toArray) hwr.now hs2
  refine (W.cut w b base es.length c i j hlt hj hh.1 hmax _ _ happ hclr2).mono ?_
  rintro e' w' ⟨rfl,rfl⟩
  have hR:Rows w ok (es.take i++es.drop j) sz' (us.take (i*sz')++us.drop (j*sz')):=(hus.take hall (by omega)).append hus.drop fun e he=>hall e (List.mem_of_mem_take he)
  have htl:(us.take (i*sz')).length=i*sz':=by rw [List.length_take];omega
  have hel2:(es.take i++es.drop j).length=i+(es.length - j):=by simp;omega
  refine U4 (w:=w) (w':=(w.drew.setRow b (aK c1.toList (base+i*sz') (us.drop (j*sz'))).toArray).setRow b (aK (aK c1.toList (base+i*sz') (us.drop (j*sz'))) (base+(i+(es.length - j))*sz') zs).toArray) (c:=(aK (aK c1.toList (base+i*sz') (us.drop (j*sz'))) (base+(i+(es.length - j))*sz') zs).toArray) hbnok rfl rfl rfl (hwr2.size.trans hwr.size) (fun b' hb'=>(hwr2.other b' hb').trans (hwr.other b' hb')) hw hwr2.now (hs2.trans hs1) ?_ hR ?_ (by rw [hel2];have:=hh.1;omega) hroom hel2
  ·intro e he
   rcases List.mem_append.1 he with h | h
   ·exact hall e (List.mem_of_mem_take h)
   ·exact hall e (List.mem_of_mem_drop h)
  ·intro q hq
   rw [List.length_append,htl,hdl] at hq
   rw [Ct hle2 (.inl (by omega))]
   by_cases hq1:q < i*sz'
   ·rw [tu hle1 (.inl (by omega)),List.getElem?_append_left (by omega),List.getElem?_take_of_lt hq1,Array.getElem?_toList]
    exact hcells q (by omega)
   ·rw [List.getElem?_append_right (by omega),htl,show base+q=base+i*sz'+(q - i*sz') by omega,xB hle1 (by omega)]
 ·cases hr
end Go.AM
