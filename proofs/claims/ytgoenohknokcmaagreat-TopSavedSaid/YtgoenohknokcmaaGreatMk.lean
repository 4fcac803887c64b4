/- Plain lemmas on the abstract machine's operations and loops. -/
import Derived.Test.YtgoenohknokcmaaGreatSh
open Option renaming bind_some->ab,map_some->a5,map_eq_some_iff->cl
open List renaming getElem?_eq_some_iff->ad,getElem?_eq_getElem->ao,getD_eq_getElem?_getD->aB,mem_cons_of_mem->a1,mem_cons_self->a6,length_map->a7,pairwise_cons->a8,findIdx?_eq_some_iff_getElem->bm,getElem?_map->br,any_eq_true->bC,findIdx?_cons->bO,foldl_cons->b0,mem_cons->b1,getElem?_eq_none->b2,mem_of_getElem?->b4,drop_eq_getElem_cons->b7,pairwise_iff_getElem->ca,all_cons->cc,drop_zero->cv,take_zero->cO,length_cons->eg,any_cons->ek,map_take->et
open Bool renaming false_eq_true->a2,and_left_comm->bb,true_and->bd,and_eq_true->bf,and_assoc->bx,and_eq_false_iff->bA,and_comm->bB,false_or->bR,or_eq_false_iff->b5,not_eq_true'->cb,and_true->cd,not_eq_true->ck,false_and->c0,and_false->c8,or_false->dd,not_eq_false'->dq
open Nat renaming zero_add->bs,add_sub_cancel->b6,reduceAdd->c9,zero_le->eP,le_refl->eW
open Int renaming ofNat_lt->bM,toNat_natCast->ds,le_refl->eZ
open Go renaming IntKind->b3
set_option linter.unusedVariables false
set_option linter.unusedSimpArgs false
namespace Go.AM
@[simp] theorem af (x:IV) (l:List IV):nth (x::l) 0=x:=rfl
@[simp] theorem agK (x:IV) (l:List IV) (n:Nat):nth (x::l) (n+1)=nth l n:=by simp [nth]
@[simp] theorem ai (x y:IV) (l:List IV):nth (x::y::l) 1=y:=rfl
@[simp] theorem ay (x y z:IV) (l:List IV):nth (x::y::z::l) 2=z:=rfl
@[simp] theorem az (x y z a:IV) (l:List IV):nth (x::y::z::a::l) 3=a:=rfl
@[simp] theorem bH (x y z a b:IV) (l:List IV):nth (x::y::z::a::b::l) 4=b:=rfl
@[simp] theorem bL (x y z a b c:IV) (l:List IV):nth (x::y::z::a::b::c::l) 5=c:=rfl
@[simp] theorem nR (x y z a b c d:IV) (l:List IV):nth (x::y::z::a::b::c::d::l) 6=d:=rfl
@[simp] theorem B8 (x y z a b c d e:IV) (l:List IV):nth (x::y::z::a::b::c::d::e::l) 7=e:=rfl
@[simp] theorem ah {R:Type} (t e:Unit->Option R):ae (.bool true) t e=t ():=rfl
@[simp] theorem ag {R:Type} (t e:Unit->Option R):ae (.bool false) t e=e ():=rfl
theorem aZ {R:Type} (p:Prop) [Decidable p] (t e:Unit->Option R):ae (.bool (decide p)) t e=if p then t () else e ():=by
 by_cases h:p<;>simp [h,ae]
theorem cm {R:Type} (b:Bool) (t e:Unit->Option R):ae (.bool b) t e=if b=true then t () else e ():=by cases b<;>rfl
@[simp] theorem al (k:b3) (a b:Int):aa .lss (.int k a) (.int k b)=some (.bool (decide (a < b))):=by simp [aa,cg]
@[simp] theorem gG (k:b3) (a b:Int):aa .leq (.int k a) (.int k b)=some (.bool (decide (a<=b))):=by simp [aa,cg]
@[simp] theorem aW (k:b3) (a b:Int):aa .gtr (.int k a) (.int k b)=some (.bool (decide (b < a))):=by simp [aa,cg]
@[simp] theorem dw (k:b3) (a b:Int):aa .geq (.int k a) (.int k b)=some (.bool (decide (b<=a))):=by simp [aa,cg]
@[simp] theorem dP (k:b3) (a b:Int):aa .eql (.int k a) (.int k b)=some (.bool (decide (a=b))):=by
  simp only [aa,cg,if_true];congr 2
@[simp] theorem di (k:b3) (a b:Int):aa .neq (.int k a) (.int k b)=some (.bool (decide (a≠b))):=by
  simp only [aa,cg,if_true,bne]
  congr 2
  by_cases h:a=b<;>simp [h]
@[simp] theorem aao (a b:Bool):H9 .eql (.bool a) (.bool b)=some (.bool (a==b)):=rfl
@[simp] theorem af4 (a b:Bool):H9 .neq (.bool a) (.bool b)=some (.bool !(a==b)):=rfl
@[simp] theorem aX (b:Bool):kA .not (.bool b)=some (.bool !b):=rfl
theorem wrap64 {a:Int} (h1: -(2 ^ 63)<=a) (h2:a < 2 ^ 63):IntKind.i64.wrap a=a:=by
 rw [IntKind.wrap_i64];omega
theorem AE {a b:Int} (h1: -(2 ^ 63)<=a+b) (h2:a+b < 2 ^ 63):aa .add (.int .i64 a) (.int .i64 b)=some (.int .i64 (a+b)):=by
 simp only [aa,cg,if_true,wrap64 h1 h2]
theorem pU {a b:Int} (h1: -(2 ^ 63)<=a - b) (h2:a - b < 2 ^ 63):aa .sub (.int .i64 a) (.int .i64 b)=some (.int .i64 (a - b)):=by
 simp only [aa,cg,if_true,wrap64 h1 h2]
theorem au {i:Nat} (h:i < 2 ^ 62):aa .add (.int .i64 (i:Int)) (.int .i64 1)=some (.int .i64 ((i+1:Nat):Int)):=by
 rw [AE (by omega) (by omega)];rfl
theorem s9 {i:Nat} (h:i < 2 ^ 62) (h0:0 < i):aa .sub (.int .i64 (i:Int)) (.int .i64 1)=some (.int .i64 ((i - 1:Nat):Int)):=by
 rw [pU (by omega) (by omega)]
 congr 2;omega
@[simp] theorem adZ (k:b3) (a b:Int):imax (.int k a) (.int k b)=some (.int k (max a b)):=by
  simp only [imax,if_true]
  congr 2
  simp only [Int.max_def]
  split<;>split<;>omega
@[simp] theorem ad8 (k:b3) (a b:Int):X7 (.int k a) (.int k b)=some (.int k (min a b)):=by
  simp only [X7,if_true]
  congr 2
  simp only [Int.min_def]
  split<;>split<;>omega
@[simp] theorem aw (es:List (List IV)):aC (.lst es)=some (.int .i64 es.length):=rfl
@[simp] theorem qG (s:ByteArray):gv (.str s)=some (.int .i64 s.size):=rfl
@[simp] theorem cx (es:List (List IV)):cn (.lst es)=es.length:=rfl
@[simp] theorem ZK (es:List (List IV)) (l h:Nat):Dy (.lst es) l h= .lst ((es.drop l).take (h - l)):=rfl
@[simp] theorem cX:av []=some []:=rfl
@[simp] theorem df (b:Bool) (l:List IV):av (.bool b::l)=(av l).map (.bool b:: ·):=by
  simp only [av,cc,IV.scalar,bd];split<;>rfl
@[simp] theorem xg (k:b3) (n:Int) (l:List IV):av (.int k n::l)=(av l).map (.int k n:: ·):=by
  simp only [av,cc,IV.scalar,bd];split<;>rfl
@[simp] theorem abd (k:FloatKind) (n:Nat) (l:List IV):av (.flt k n::l)=(av l).map (.flt k n:: ·):=by
  simp only [av,cc,IV.scalar,bd];split<;>rfl
@[simp] theorem ahx (s:ByteArray) (l:List IV):av (.str s::l)=(av l).map (.str s:: ·):=by
  simp only [av,cc,IV.scalar,bd];split<;>rfl
@[simp] theorem aJ {R:Type} (x:Option R) (l:List (Option R)):dY 0 (x::l)=x:=rfl
@[simp] theorem Zi {R:Type} (x y:Option R) (l:List (Option R)):dY 1 (x::y::l)=y:=rfl
@[simp] theorem ah7 {R:Type} (x y z:Option R) (l:List (Option R)):dY 2 (x::y::z::l)=z:=rfl
theorem ea {α:Type} {enc:α->List IV} {l:List α} {i:Nat} {x:α} {sz:Nat} (h:l[i]? =some x) (hs:(enc x).length=sz) (hp:0 < sz):aK (.lst (l.map enc)) (.int .i64 (i:Int)) sz=some i:=by
 have hi:i < l.length:=(ad.1 h).1
 simp only [aK]
 rw [if_pos]
 ·simp
 ·refine ⟨by omega,by simp;omega,?_,hp⟩
  simp only [ds,aB,br,h,a5,Option.getD_some,hs]
theorem rK {α:Type} {enc:α->List IV} {l:List α} {i:Nat} {x:α} {sz:Nat} (h:l[i]? =some x) (hs:(enc x).length=sz):dN (.lst (l.map enc)) i 0 sz=some (enc x):=by
 simp only [dN,br,h,a5,ab,bs,cv]
 rw [if_pos (by omega),<-hs,List.take_length]
theorem b8 {α:Type} {enc:α->List IV} {l:List α} {i j:Nat} {x:α} (h:l[i]? =some x):dU (.lst (l.map enc)) i j=(enc x)[j]? :=by
 simp only [dU,br,h,a5,ab]
theorem e9 {n i:Nat} {k:b3} (h:i < n):cA n (.int k (i:Int))=some i:=by
 simp only [cA]
 rw [if_pos (by omega)];simp
def JA {α a:Type} (step:Nat->a->α->a ⊕ (Nat×List IV)) (out:a->Nat×List IV):List α->Nat->a->Nat×List IV
 | [],_,s=>out s
 | x::xs,i,s=>match step i s x with | .inl b=>JA step out xs (i+1) b | .inr p=>p
theorem QN {α b:Type} {f:List IV->Option SR} {enc:Nat->b->List IV} {step:Nat->b->α->b ⊕ (Nat×List IV)} {out:b->Nat×List IV} (I:Nat->b->Prop) (l:List α)
  (hs: ∀i s x,l[i]? =some x->I i s->(∀a,step i s x= .inl a->I (i+1) a)/\f (enc i s)=some (match step i s x with | .inl a=> .next (enc (i+1) a) | .inr p=> .done p.1 p.2))
  (he: ∀s,I l.length s->f (enc l.length s)=some (.done (out s).1 (out s).2)):
  ∀(n k:Nat) (s:b),k<=l.length->l.length - k < n->I k s->iter n f (enc k s)=some (JA step out (l.drop k) k s)
 | 0,k,s,_,h,_=>by omega
 | n+1,k,s,hk,hn,e=>by
   by_cases h:k=l.length
   ·subst h
    simp only [iter,he s e,ab,List.drop_length,JA]
   ·have c:k < l.length:=by omega
    have g:l[k]? =some l[k]:=ao c
    obtain ⟨h1,h2⟩:=hs k s l[k] g e
    rw [b7 c]
    simp only [iter,h2,ab,JA]
    cases d:step k s l[k] with
    | inl a=>exact QN I l hs he n (k+1) a (by omega) (by omega) (h1 a d)
    | inr p=>rfl
theorem FR {α a:Type} {f:List IV->Option SR} {vs0:List IV} (enc:Nat->a->List IV) (step:Nat->a->α->a ⊕ (Nat×List IV)) (out:a->Nat×List IV) (I:Nat->a->Prop) (l:List α) (s:a) (h0:vs0=enc 0 s) (hl:l.length < rounds) (c:I 0 s)
  (hs: ∀i s x,l[i]? =some x->I i s->(∀b,step i s x= .inl b->I (i+1) b)/\f (enc i s)=some (match step i s x with | .inl b=> .next (enc (i+1) b) | .inr p=> .done p.1 p.2))
  (he: ∀s,I l.length s->f (enc l.length s)=some (.done (out s).1 (out s).2)):iter rounds f vs0=some (JA step out l 0 s):=by
 subst h0
 have:=QN I l hs he rounds 0 s (eP _) (by omega) c
 simpa using this
theorem lP {α:Type} {f:List IV->Option SR} {vs0:List IV} (enc:Nat->List IV) (p:α->Bool) (c:Nat) (b:Nat->List IV) (d:Nat) (a:List IV) (l:List α) (h0:vs0=enc 0) (hl:l.length < rounds)
  (hs: ∀i x,l[i]? =some x->f (enc i)=some (if p x=true then .done c (b i) else .next (enc (i+1)))) (he:f (enc l.length)=some (.done d a)):
  iter rounds f vs0=some (match l.findIdx? p with | some i=>(c,b i) | none=>(d,a)):=by
 rw [FR (vs0:=vs0) (λi (_:Unit)=>enc i) (λi _ x=>if p x=true then .inr (c,b i) else .inl ()) (λ_=>(d,a)) (λ_ _=>True) l () h0 hl trivial (λi s x e _=>⟨λ_ _=>trivial,by rw [hs i x e];split<;>rfl⟩) (λ_ _=>he)]
 have key: ∀(l:List α) (k:Nat),JA (λi (_:Unit) x=>if p x=true then .inr (c,b i) else .inl ()) (λ_=>(d,a)) l k ()=match l.findIdx? p with | some i=>(c,b (k+i)) | none=>(d,a):=by
  intro l
  induction l with
  | nil=>intro k;rfl
  | cons x l ih=>
    intro k
    simp only [JA,bO]
    by_cases h:p x=true
    ·simp [h]
    ·simp only [h,if_false,a2]
     rw [ih]
     cases l.findIdx? p with
     | none=>rfl
     | some i=>simp;congr 1;omega
 rw [key l 0]
 cases l.findIdx? p<;>simp
def anyI {α:Type} (bad:Nat->α->Bool):List α->Nat->Bool
 | [],_=>false
 | x::l,k=>bad k x||anyI bad l (k+1)
theorem GX {α:Type} {bad:Nat->α->Bool}: ∀{l:List α} {k:Nat},anyI bad l k=true↔ ∃i x,l[i]? =some x/\bad (k+i) x=true
 | [],k=>by simp [anyI]
 | y::l,k=>by
   simp only [anyI,Bool.or_eq_true]
   rw [GX]
   constructor
   ·rintro (h | ⟨i,x,h1,h2⟩)
    ·exact ⟨0,y,rfl,h⟩
    ·exact ⟨i+1,x,by simpa using h1,by rw [<-h2];congr 1;omega⟩
   ·rintro ⟨i,x,h1,h2⟩
    cases i with
    | zero=>cases h1;exact .inl h2
    | succ i=>exact .inr ⟨i,x,by simpa using h1,by rw [<-h2];congr 1;omega⟩
theorem LF {α:Type} {bad:Nat->α->Bool} {l:List α} {k:Nat}:anyI bad l k=false↔ ∀i x,l[i]? =some x->bad (k+i) x=false:=by
 rw [<-ck,GX]
 constructor
 ·intro h i x a
  rw [<-ck]
  exact λhb=>h ⟨i,x,a,hb⟩
 ·rintro h ⟨i,x,a,hb⟩
  rw [h i x a] at hb;cases hb
theorem Us {α:Type} {p:α->Bool}: ∀{l:List α} {k:Nat},anyI (λ_ x=>p x) l k=l.any p
 | [],_=>rfl
 | x::l,k=>by simp only [anyI,ek,Us]
theorem qI {α:Type} {f:List IV->Option SR} {vs0:List IV} (enc:Nat->List IV) (bad:Nat->α->Bool) (c:Nat) (b:List IV) (d:Nat) (a:List IV) (l:List α) (h0:vs0=enc 0) (hl:l.length < rounds)
  (hs: ∀i x,l[i]? =some x->f (enc i)=some (if bad i x=true then .done c b else .next (enc (i+1)))) (he:f (enc l.length)=some (.done d a)):
  iter rounds f vs0=some (if anyI bad l 0=true then (c,b) else (d,a)):=by
 rw [FR (vs0:=vs0) (λi (_:Unit)=>enc i) (λi _ x=>if bad i x=true then .inr (c,b) else .inl ()) (λ_=>(d,a)) (λ_ _=>True) l () h0 hl trivial (λi s x e _=>⟨λ_ _=>trivial,by rw [hs i x e];split<;>rfl⟩) (λ_ _=>he)]
 have key: ∀(l:List α) (k:Nat),JA (λi (_:Unit) x=>if bad i x=true then .inr (c,b) else .inl ()) (λ_=>(d,a)) l k ()=if anyI bad l k=true then (c,b) else (d,a):=by
  intro l
  induction l with
  | nil=>intro k;rfl
  | cons x l ih=>
    intro k
    simp only [JA,anyI]
    by_cases h:bad k x=true
    ·simp [h]
    ·simp only [h,if_false,a2,bR]
     exact ih (k+1)
 rw [key l 0]
theorem mI {α a:Type} {f:List IV->Option SR} {vs0:List IV} (enc:Nat->a->List IV) (g:a->α->a) (b:Nat) (out:a->List IV) (I:Nat->a->Prop) (l:List α) (s:a) (h0:vs0=enc 0 s) (hl:l.length < rounds) (c:I 0 s)
  (hs: ∀i s x,l[i]? =some x->I i s->I (i+1) (g s x)/\f (enc i s)=some (.next (enc (i+1) (g s x)))) (he: ∀s,I l.length s->f (enc l.length s)=some (.done b (out s))):
  iter rounds f vs0=some (b,out (l.foldl g s)):=by
 rw [FR (vs0:=vs0) enc (λ_ s x=> .inl (g s x)) (λs=>(b,out s)) I l s h0 hl c (λi s x d c=>⟨λh e=>by cases e;exact (hs i s x d c).1,(hs i s x d c).2⟩) he]
 congr 1
 have key: ∀(l:List α) (k:Nat) (s:a),JA (λ_ s x=> .inl (g s x)) (λs=>(b,out s)) l k s=(b,out (l.foldl g s)):=by
  intro l
  induction l with
  | nil=>intro k s;rfl
  | cons x l ih=>intro k s;exact ih (k+1) (g s x)
 exact key l 0 s
end Go.AM
namespace Go.AM
theorem aI:rounds=1000000:=rfl
structure Mark where
 r:Int
 c:Int
 deriving DecidableEq
def Nx (m:Mark):List IV:=[.int .i64 m.r,.int .i64 m.c]
abbrev aA (l:List Mark):IV:= .lst (l.map Nx)
theorem sX {l:List Mark} {i:Nat} {x:Mark} (h:l[i]? =some x):i < l.length/\aK (aA l) (.int .i64 (i:Int)) 2=some i/\dN (aA l) i 0 2=some [.int .i64 x.r,.int .i64 x.c]/\dU (aA l) i 0=some (.int .i64 x.r)/\dU (aA l) i 1=some (.int .i64 x.c)/\cA l.length (.int .i64 (i:Int))=some i:=
 ⟨(ad.1 h).1,ea h rfl (by decide),rK h rfl,b8 h,b8 h,e9 (ad.1 h).1⟩
theorem Z8 {l:List Mark} {i:Nat} {x:Mark} (h:l[i]? =some x) (c:Int):rU (aA l) i 1 [.int .i64 c]=some (aA (l.set i ⟨x.r,c⟩)):=by
 simp only [rU,br,h,a5,ab,Nx,eg,List.length_nil]
 rw [if_pos (by decide)]
 simp only [aA,List.map_set]
 rfl
def aaw (x:Int):List IV:=[.int .i64 x]
abbrev bu (l:List Int):IV:= .lst (l.map aaw)
theorem oS {l:List Int} {i:Nat} {x:Int} (h:l[i]? =some x):i < l.length/\aK (bu l) (.int .i64 (i:Int)) 1=some i/\dN (bu l) i 0 1=some [.int .i64 x]/\dU (bu l) i 0=some (.int .i64 x)/\cA l.length (.int .i64 (i:Int))=some i:=
 ⟨(ad.1 h).1,ea h rfl (by decide),rK h rfl,b8 h,e9 (ad.1 h).1⟩
def QT {α:Type} (p:α->Bool) (l:List α):Int:=match l.findIdx? p with | some i=>(i:Int) | none=> -1
theorem Az {α:Type} {p:α->Bool} {l:List α} (h:l.findIdx? p=none):QT p l= -1:=by simp [QT,h]
theorem Bh {α:Type} {p:α->Bool} {l:List α} {i:Nat} (h:l.findIdx? p=some i):QT p l=(i:Int):=by simp [QT,h]
theorem Tb {α:Type} {p:α->Bool} {l:List α}:(0<=QT p l)↔l.any p=true:=by
 unfold QT
 cases h:l.findIdx? p with
 | none=>
   simp only [List.findIdx?_eq_none_iff] at h
   constructor
   ·intro h0;simp at h0
   ·intro h0
    obtain ⟨x,a,hp⟩:=bC.1 h0
    rw [h x a] at hp;cases hp
 | some i=>
   simp only [Int.natCast_nonneg,true_iff]
   obtain ⟨hi,hp,_⟩:=bm.1 h
   exact bC.2 ⟨l[i],List.getElem_mem hi,hp⟩
theorem vj {α:Type} {p:α->Bool} {l:List α} {i:Nat} (h:l.findIdx? p=some i): ∃x,l[i]? =some x/\p x=true:=by
 obtain ⟨hi,hp,_⟩:=bm.1 h
 exact ⟨l[i],ao hi,hp⟩
theorem tG {C:IV->List Nat->List (List IV)->Option (List IV)} {b:IV} {p:Mark->Bool} {l:List Mark} (hl:l.length < 2 ^ 16) (c: ∀x∈l,C b [1] [Nx x]=some [.bool (p x)]):
  aV C (aA l) b=some [.int .i64 (QT p l)]:=by
 unfold aV
 simp only [aw,ab]
 rw [lP (vs0:=[IV.int .i64 0]) (λi=>[IV.int .i64 (i:Int)]) p 1 (λi=>[IV.int .i64 (i:Int)]) 0 [] l rfl (by have:=aI;omega)]
 ·unfold QT
  cases l.findIdx? p<;>simp
 ·intro i x a
  have hi:i < l.length:=(ad.1 a).1
  have hc:=c x (b4 a)
  unfold ir
  unfold Nx at hc
  simp [sX a,hc,cm,au (show i < 2 ^ 62 by omega)]
  split<;>rfl
 ·unfold ir
  simp
def getM:List Mark->Int->Int
 | [],_=>0
 | x::l,r=>if x.r=r then x.c else getM l r
def Ua (r:Int) (x:Mark):Bool:=decide (x.r=r)
def VW (v:List Mark) (r:Int):Bool:=v.any (Ua r)
def DV:List Mark->Int->Int->List Mark
 | [],_,_=>[]
 | x::l,c,r=>if x.r=r then ⟨x.r,max x.c c⟩::l else x::DV l c r
def Fi:List Mark->Int->Int->List Mark
 | [],c,r=>[⟨r,c⟩]
 | x::l,c,r=>if r < x.r then ⟨r,c⟩::x::l else x::Fi l c r
def lz (v:List Mark) (c r:Int):List Mark:=if VW v r=true then DV v c r else if c<=0 then v else Fi v c r
def AV (a b:List Mark):Bool:= !a.any λx=>decide (getM b x.r < getM a x.r)
def Xr (v:List Mark):Bool:= !anyI (λi x=>decide (x.r < 1)||decide (255 < x.r)||decide (x.c < 1)||decide (4611686018427387903 < x.c)||(decide (0 < i)&&decide (x.r<=(v.getD (i - 1) x).r))) v 0
theorem RK {r:Int}: ∀(l:List Mark),getM l r=match l.findIdx? (Ua r) with | some i=>(l.getD i ⟨0,0⟩).c | none=>0
 | []=>rfl
 | x::l=>by
   simp only [getM,bO,Ua,decide_eq_true_eq]
   by_cases h:x.r=r
   ·simp [h]
   ·simp only [h,if_false]
    rw [RK l]
    cases l.findIdx? (Ua r)<;>simp
theorem Y1 {c r:Int}: ∀(l:List Mark) (i:Nat) (x:Mark),l.findIdx? (Ua r)=some i->l[i]? =some x->DV l c r=l.set i ⟨x.r,max x.c c⟩
 | [],i,x,h,_=>by simp at h
 | y::l,i,x,h,b=>by
   simp only [bO,Ua,decide_eq_true_eq] at h
   by_cases a:y.r=r
   ·simp only [a,if_true,Option.some.injEq] at h
    subst h
    cases b
    simp [DV,a]
   ·simp only [a,if_false] at h
    obtain ⟨j,hj,rfl⟩:=cl.1 h
    simp only [DV,a,if_false,List.set_cons_succ]
    rw [Y1 l j x hj (by simpa using b)]
theorem YI {c r:Int}: ∀(l:List Mark),Fi l c r=l.take ((l.findIdx? λx=>decide (r < x.r)).getD l.length)++[⟨r,c⟩]++l.drop ((l.findIdx? λx=>decide (r < x.r)).getD l.length)
 | []=>rfl
 | x::l=>by
   simp only [Fi,bO,decide_eq_true_eq]
   by_cases h:r < x.r
   ·simp [h]
   ·simp only [h,if_false]
    rw [YI l]
    cases l.findIdx? (λx=>decide (r < x.r))<;>simp
theorem Ay {l:List Mark} (hl:l.length < 2 ^ 16) (r:Int):kG (aA l) (.int .i64 r)=some [.int .i64 (QT (Ua r) l),.bool (decide (0<=QT (Ua r) l))]:=by
 unfold kG
 rw [tG hl (p:=Ua r)]
 ·simp
 ·intro x _
  show jS (.int .i64 x.r) (.int .i64 x.c) (.ptr [.int .i64 r] 0)=_
  unfold jS
  simp [iM,Ua]
theorem xZ {l:List Mark} (hl:l.length < 2 ^ 16) (r:Int):lC (aA l) (.int .i64 r)=some [.int .i64 (getM l r)]:=by
 unfold lC
 rw [Ay hl,RK]
 cases h:l.findIdx? (Ua r) with
 | none=>simp [Az h]
 | some i=>
   obtain ⟨x,b,_⟩:=vj h
   have a:l.getD i ⟨0,0⟩=x:=by rw [aB,b];rfl
   simp only [a]
   simp [Bh h,sX b,aZ]
theorem u9 {l:List Int} (hl:l.length < 2 ^ 16) (n:Int):fK (.int .i64 n) (bu l)=some [.int .i64 (l.foldl max n)]:=by
 unfold fK
 simp only [aw,ab]
 rw [mI (vs0:=[IV.int .i64 n,.int .i64 0]) (λi (n:Int)=>[IV.int .i64 n,.int .i64 (i:Int)]) (λn x=>max n x) 0 (λn=>[.int .i64 n]) (λ_ _=>True) l n rfl (by have:=aI;omega) trivial]
 ·simp
 ·intro i s x a _
  have hi:i < l.length:=(ad.1 a).1
  refine ⟨trivial,?_⟩
  unfold pM
  simp [oS a,au (show i < 2 ^ 62 by omega)]
 ·intro s _
  unfold pM
  simp
theorem Jd {l:List Mark} (hl:l.length < 2 ^ 16) {i:Nat} (hi:i<=l.length) (m:Mark):dg (aA l) (.int .i64 (i:Int)) (.lst [[.int .i64 m.r,.int .i64 m.c]])=some [aA (l.take i++[m]++l.drop i)]:=by
 unfold dg
 simp only [sP]
 rw [if_pos]
 ·simp [Nx]
 ·refine ⟨by omega,by simp;omega,by simp;omega,rfl⟩
theorem Yc {l:List Mark} (hl:l.length < 2 ^ 16):fe (aA l)=some [aA l]:=by
 unfold fe
 simp only [ux]
 rw [if_pos]
 refine ⟨by simp;omega,by simp [Nx,IV.scalar]⟩
theorem zS {l:List Mark} (hl:l.length < 2 ^ 16) (c r:Int):kC (aA l) (.int .i64 c) (.int .i64 r)=some [aA (lz l c r)]:=by
 unfold kC lz VW
 rw [Yc hl]
 simp only [ab]
 rw [Ay hl]
 simp only [ab,ai,af,aZ,Tb]
 by_cases h:l.any (Ua r)=true
 ·simp only [h,if_true]
  obtain ⟨i,hi⟩: ∃i,l.findIdx? (Ua r)=some i:=by
   cases hh:l.findIdx? (Ua r) with
   | some i=>exact ⟨i,rfl⟩
   | none=>have:=Tb.2 h;rw [Az hh] at this;omega
  obtain ⟨x,a,_⟩:=vj hi
  rw [Bh hi,Y1 l i x hi a]
  have b:=u9 (l:=[c]) (by simp) x.c
  simp only [bu,aaw,List.map_cons,List.map_nil,b0,List.foldl_nil] at b
  simp [sX a,b,Z8 a]
 ·simp only [h,if_false,a2]
  simp only [gG,ab,aZ]
  split
  ·rfl
  ·rw [tG hl (p:= λx=>decide (r < x.r))]
   ·rw [YI]
    cases hh:l.findIdx? (λx=>decide (r < x.r)) with
    | none=>
      have:=Jd hl (eW _) ⟨r,c⟩
      simp only at this
      simp [Az hh,this]
    | some i=>
      obtain ⟨hi,_⟩:=bm.1 hh
      have:=Jd hl (Nat.le_of_lt hi) ⟨r,c⟩
      simp only at this
      simp [Bh hh,this,aZ,show ¬((i:Int) < 0) by omega]
   ·intro x _
    show j9 (.int .i64 x.r) (.int .i64 x.c) (.ptr [.int .i64 c,.int .i64 r] 0)=_
    unfold j9
    simp [iM,gu]
end Go.AM
namespace Go.AM
theorem IZ {c r:Int}: ∀(l:List Mark),(DV l c r).length=l.length
 | []=>rfl
 | x::l=>by simp only [DV];split<;>simp [IZ l]
theorem I0 {c r:Int}: ∀(l:List Mark),(Fi l c r).length=l.length+1
 | []=>rfl
 | x::l=>by simp only [Fi];split<;>simp [I0 l]
theorem vR {c r:Int} (l:List Mark):(lz l c r).length<=l.length+1:=by
 unfold lz
 split
 ·rw [IZ];omega
 ·split
  ·omega
  ·rw [I0];omega
structure Mv where
 c:Int
 r:Int
 par:Int
 ch:Int
 nm:ByteArray
 rk:Nat
 deriving DecidableEq
def eMv (m:Mv):List IV:=[.int .i64 m.c,.int .i64 m.r,.int .i64 m.par,.int .i64 m.ch,.str m.nm,.flt .f64 m.rk]
abbrev bg (l:List Mv):IV:= .lst (l.map eMv)
theorem abA {α:Type} {enc:α->List IV} {l:List α} {i n:Nat} {x:α} (h:l[i]? =some x) (hs:n<=(enc x).length):dN (.lst (l.map enc)) i 0 n=some ((enc x).take n):=by
 simp only [dN,br,h,a5,ab,bs,cv]
 rw [if_pos (by omega)]
theorem uX {l:List Mv} {i:Nat} {x:Mv} (h:l[i]? =some x):i < l.length/\aK (bg l) (.int .i64 (i:Int)) 6=some i/\dN (bg l) i 0 6=some [.int .i64 x.c,.int .i64 x.r,.int .i64 x.par,.int .i64 x.ch,.str x.nm,.flt .f64 x.rk]/\dN (bg l) i 0 2=some [.int .i64 x.c,.int .i64 x.r]/\
  dU (bg l) i 0=some (.int .i64 x.c)/\dU (bg l) i 1=some (.int .i64 x.r)/\dU (bg l) i 2=some (.int .i64 x.par)/\dU (bg l) i 3=some (.int .i64 x.ch)/\dU (bg l) i 4=some (.str x.nm)/\dU (bg l) i 5=some (.flt .f64 x.rk)/\cA l.length (.int .i64 (i:Int))=some i:=
 ⟨(ad.1 h).1,ea h rfl (by decide),rK h rfl,abA h (by simp [eMv]),b8 h,b8 h,b8 h,b8 h,b8 h,b8 h,e9 (ad.1 h).1⟩
def ofM (l:List Mv):List Mark:=l.foldl (λv m=>lz v m.c m.r) []
theorem Ga: ∀(l:List Mv) (a:List Mark),(l.foldl (λv m=>lz v m.c m.r) a).length<=a.length+l.length
 | [],a=>by simp
 | x::b,a=>by
   have h1:=Ga b (lz a x.c x.r)
   have h2:=vR (c:=x.c) (r:=x.r) a
   simp only [b0,eg] at h1 ⊢
   omega
theorem UP {l:List Mv} (hl:l.length < 2 ^ 15):tm (bg l)=some [aA (ofM l)]:=by
 unfold tm ofM
 simp only [aw,ab]
 rw [mI (vs0:=[.lst [],.int .i64 0]) (λi (v:List Mark)=>[aA v,.int .i64 (i:Int)]) (λv x=>lz v x.c x.r) 0 (λv=>[aA v]) (λi v=>v.length<=i) l [] rfl (by have:=aI;omega) (by simp)]
 ·simp
 ·intro i s x a b
  have hi:i < l.length:=(ad.1 a).1
  have:=vR (c:=x.c) (r:=x.r) s
  refine ⟨by omega,?_⟩
  unfold A8
  simp [uX a,zS (show s.length < 2 ^ 16 by omega),au (show i < 2 ^ 62 by omega)]
 ·intro s _
  unfold A8
  simp
theorem MB {a b:List Mark} (d:a.length < 2 ^ 16) (hb:b.length < 2 ^ 16):nJ (aA a) (aA b)=some [.bool (AV a b)]:=by
 unfold nJ cD
 rw [tG d (p:= λx=>decide (getM b x.r < getM a x.r))]
 ·simp only [ab,af,dw,Tb,df,cX,a5,aX]
  congr 3
  unfold AV
  simp only [Bool.decide_eq_true]
 ·intro x _
  show j6 (.int .i64 x.r) (.int .i64 x.c) (.ptr [aA a] 0) (.ptr [aA b] 0)=_
  unfold j6
  simp [iM,xZ d,xZ hb]
theorem xN {v:List Mark} (hv:v.length < 2 ^ 16):dB (aA v)=some [.bool (Xr v)]:=by
 unfold dB Xr
 simp only [aw,ab]
 rw [qI (vs0:=[.int .i64 0]) (λi=>[IV.int .i64 (i:Int)]) (λi x=>decide (x.r < 1)||decide (255 < x.r)||decide (x.c < 1)||decide (4611686018427387903 < x.c)||(decide (0 < i)&&decide (x.r<=(v.getD (i - 1) x).r))) 1 [.bool false] 0 [] v rfl (by have:=aI;omega)]
 ·split<;>simp_all
 ·intro i x e
  have hi:i < v.length:=(ad.1 e).1
  unfold xX
  simp only [af,ai,al,aW,a7,bM,sX e,decide_true,ah,ab,aZ,au (show i < 2 ^ 62 by omega)]
  by_cases h1:x.r < 1
  ·simp [h1]
  by_cases h2:255 < x.r
  ·simp [h1,h2]
  by_cases a:x.c < 1
  ·simp [h1,h2,a]
  by_cases b:4611686018427387903 < x.c
  ·simp [h1,h2,a,b]
  by_cases d:0 < i
  ·have hp:v[i - 1]? =some (v.getD (i - 1) x):=by
    rw [aB,ao (by omega)];rfl
   simp only [h1,h2,a,b,if_false,show (0:Int) < (i:Int) by omega,d,if_true,s9 (show i < 2 ^ 62 by omega) d,ab,sX hp,dw,af,aZ,decide_false,bR,decide_true,bd,decide_eq_true_eq]
   split<;>rfl
  ·simp [h1,h2,a,b,d,show ¬((0:Int) < (i:Int)) by omega]
 ·unfold xX
  simp
theorem abp {l:List Int} (hl:l.length < 2 ^ 20) (n:Int):bU 1 8 (bu l) (.lst [[.int .i64 n]])=some (bu (l++[n])):=by
 simp only [bU]
 rw [if_pos]
 ·simp [aaw]
 ·refine ⟨by simp;omega,rfl⟩
def GC (v:List Mark) (n:Int):Int:=v.foldl (λn x=>max n x.c) n
def YL (v:List Mark) (n r:Int):List IV:=if 4611686018427387903<=GC v (max 0 n)\/r < 1\/255 < r then [.int .i64 0,.int .i64 0,.bool false] else [.int .i64 (GC v (max 0 n)+1),.int .i64 r,.bool true]
theorem KA (v:List Mark): ∀n,n<=GC v n:=by
 unfold GC
 induction v with
 | nil=>intro n;exact eZ _
 | cons x v ih=>intro n;exact Int.le_trans (by omega) (ih (max n x.c))
theorem C3 {v:List Mark} (hv:v.length < 2 ^ 15) (n q r:Int):pJ (aA v) (.int .i64 n) (.int .i64 q) (.int .i64 r)=some (YL v n r):=by
 unfold pJ
 simp only [aw,ab]
 rw [mI (vs0:=[.lst [[.int .i64 n]],.int .i64 0]) (λi (l:List Int)=>[bu l,.int .i64 (i:Int)]) (λl x=>l++[x.c]) 0 (λl=>[bu l]) (λi l=>l.length=i+1) v [n] rfl (by have:=aI;omega) rfl]
 ·have a: ∀(v:List Mark) (l:List Int),v.foldl (λl x=>l++[x.c]) l=l++v.map (·.c):=by
   intro v
   induction v with
   | nil=>intro l;simp
   | cons x v ih=>intro l;simp [ih]
  rw [a]
  simp only [ab,aJ,af]
  rw [u9 (by simp;omega)]
  have f:([n]++v.map (·.c)).foldl max 0=GC v (max 0 n):=by
   unfold GC
   simp only [List.singleton_append,b0,List.foldl_map]
  rw [f]
  have e:=KA v (max 0 n)
  unfold YL
  simp only [ab,af,dw,al,aW,aZ]
  by_cases h1:4611686018427387903<=GC v (max 0 n)
  ·simp [h1]
  ·simp only [h1,if_false,false_or]
   rw [AE (by omega) (by omega)]
   by_cases h2:r < 1
   ·simp [h2]
   ·by_cases b:255 < r
    ·simp [h2,b]
    ·simp [h2,b]
 ·intro i s x d g
  have hi:i < v.length:=(ad.1 d).1
  refine ⟨by simp;omega,?_⟩
  unfold we
  simp [sX d,abp (show s.length < 2 ^ 20 by omega),au (show i < 2 ^ 62 by omega)]
 ·intro s _
  unfold we
  simp
theorem Qf {a b:List Mark} (m:a.length < 2 ^ 16):pr (aA a) (aA b)=some [.bool (decide (a=b))]:=by
 unfold pr
 simp only [aw,ab,di,a7,aZ]
 by_cases hlen:a.length=b.length
 ·rw [if_neg (by omega)]
  rw [qI (vs0:=[.int .i64 0]) (λi=>[IV.int .i64 (i:Int)]) (λi x=>decide (b[i]? ≠some x)) 1 [.bool false] 0 [] a rfl (by have:=aI;omega)]
  ·have:(anyI (λi x=>decide (b[i]? ≠some x)) a 0=true)↔ ¬(a=b):=by
    rw [GX]
    constructor
    ·rintro ⟨i,x,h1,h2⟩ rfl
     simp [h1] at h2
    ·intro j
     have: ∃i,a[i]? ≠b[i]? :=Classical.byContradiction λh=>j (List.ext_getElem? λi=>Classical.byContradiction λh'=>h ⟨i,h'⟩)
     obtain ⟨i,hi⟩:=this
     by_cases f:i < a.length
     ·exact ⟨i,a[i],ao f,by
       rw [ao f] at hi
       simpa using λh=>hi h.symm⟩
     ·rw [b2 (by omega),b2 (by omega)] at hi
      exact absurd rfl hi
   by_cases d:a=b
   ·have h2:=mt this.1 (not_not_intro d)
    rw [if_neg h2]
    simp [d]
   ·have h2:=this.2 d
    simp only [h2,if_true,ab,Zi,af,d,decide_false,df,cX,a5]
  ·intro i x l
   have hi:i < a.length:=(ad.1 l).1
   have k:b[i]? =some (b[i]'(by omega)):=ao (by omega)
   generalize b[i]'(by omega)=y at k
   unfold vS
   simp only [aw,ab,af,ai,al,a7,bM,sX l,sX k,decide_true,ah,HO,Hb,SW,if_true,k,au (show i < 2 ^ 62 by omega),a5,cm,cd]
   by_cases h:x=y
   ·subst h;simp
   ·have h': ¬(x.r=y.r/\x.c=y.c):= λ⟨h1,h2⟩=>h (by cases x;cases y;simp_all)
    have g: ¬(y=x):= λe=>h e.symm
    simp only [ne_eq,Option.some.injEq,g,not_false_eq_true,decide_true,if_true]
    by_cases h1:x.r=y.r
    ·have h2: ¬x.c=y.c:= λh2=>h' ⟨h1,h2⟩
     simp [h1,h2]
    ·simp [h1]
  ·unfold vS
   simp
 ·rw [if_pos (by omega)]
  have: ¬a=b:= λh=>hlen (by rw [h])
  simp [this]
theorem Z3 {l k:List Mark} (hl:l.length < 2 ^ 20) (hk:k.length < 2 ^ 20):bU 2 16 (aA l) (aA k)=some (aA (l++k)):=by
 simp only [bU]
 rw [if_pos]
 ·simp
 ·refine ⟨by simp;omega,by simp [Nx]⟩
theorem Kw {n i:Nat} {k:b3} (h:i<=n):Uh (.int k (i:Int)) n=some i:=by
 simp only [Uh]
 rw [if_pos (by omega)];simp
theorem Bn {n i:Nat} {k:b3} (h:i<=n):kV n (some (.int k (i:Int))) none=some (i,n):=by simp [kV,Kw h]
theorem M8 {n i:Nat} {k:b3} (h:i<=n):kV n none (some (.int k (i:Int)))=some (0,i):=by simp [kV,Kw h]
def ZG (l:List Mv) (n:Nat):Bool:=decide (l.length<=n)&& !l.any λm=>decide (100 < m.nm.size)
theorem Tz {l:List Mv} {n:Nat} (hn:n < 2 ^ 16):ot (bg l) (.int .i64 (n:Int))=some [.bool (ZG l n)]:=by
 unfold ot ZG
 simp only [aw,ab,aW,a7,aZ,bM]
 by_cases h:n < l.length
 ·simp [h,Nat.not_le.2 h]
 ·rw [if_neg h]
  rw [qI (vs0:=[.int .i64 0]) (λi=>[IV.int .i64 (i:Int)]) (λ_ m=>decide (100 < m.nm.size)) 1 [.bool false] 0 [] l rfl (by have:=aI;omega),Us]
  ·have hle:l.length<=n:=by omega
   simp only [hle,decide_true,bd]
   cases l.any λm=>decide (100 < m.nm.size)<;>simp
  ·intro i x a
   have hi:i < l.length:=(ad.1 a).1
   unfold yy
   simp only [aw,qG,af,al,aW,a7,bM,uX a,decide_true,ah,ab,aZ,au (show i < 2 ^ 62 by omega),decide_eq_true_eq]
   have:((100:Int) < (x.nm.size:Int))↔100 < x.nm.size:=by omega
   simp only [this]
   split<;>rfl
  ·unfold yy
   simp
end Go.AM
namespace Go.AM
theorem Typed.one_inv {s:Sh} {cs:List IV} (h:Typed [s] cs): ∃c,cs=[c]/\ShOK s c:=by
 match cs,h.1 with
 | [c],_=>exact ⟨c,rfl,h.2 0 s c rfl rfl⟩
theorem Typed.cons_inv {s:Sh} {l:List Sh} {cs:List IV} (h:Typed (s::l) cs): ∃c a,cs=c::a/\ShOK s c/\Typed l a:=by
 match cs,h.1 with
 | c::a,hl=>exact ⟨c,a,rfl,h.2 0 s c rfl rfl,by simpa using hl,λj b c' h1 h2=>h.2 (j+1) b c' (by simpa using h1) (by simpa using h2)⟩
theorem Typed.nil_inv {cs:List IV} (h:Typed [] cs):cs=[]:=List.length_eq_zero_iff.1 h.1
abbrev ahS:List Sh:=[.int .i64,.int .i64,.int .i64,.int .i64,.str,.flt .f64]
theorem adm {cs:List IV} (h:Typed [.int .i64] cs): ∃a,cs=[.int .i64 a]/\ -(2 ^ 63)<=a/\a < 2 ^ 63:=by
 obtain ⟨b,rfl,h0⟩:=h.one_inv
 cases h0 with
 | int k n h1=>
   simp only [Lit.wf,bf,decide_eq_true_eq] at h1
   have h1:IntKind.i64.min= -(2 ^ 63):=by rfl
   have h2:IntKind.i64.max=2 ^ 63 - 1:=by rfl
   exact ⟨n,rfl,by omega,by omega⟩
theorem TypedAll.cons_inv {l:List Sh} {L:List (List Sh)} {cs:List (List IV)} (h:TypedAll (l::L) cs): ∃c a,cs=c::a/\Typed l c/\TypedAll L a:=by
 cases h with
 | cons h t=>exact ⟨_,_,rfl,h,t⟩
theorem TypedAll.nil_inv {cs:List (List IV)} (h:TypedAll [] cs):cs=[]:=by cases h;rfl
end Go.AM
namespace Go.AM
structure MayP (v:List Mark):Prop where
 sorted:v.Pairwise λa b=>a.r < b.r
 ok: ∀x∈v,1<=x.r/\x.r<=255/\1<=x.c/\x.c<=4611686018427387903
theorem yR {α:Type} {R:α->α->Prop} (d: ∀a b c,R a b->R b c->R a c) {v:List α} (h: ∀(i:Nat) (hi:i+1 < v.length),R v[i] v[i+1]):v.Pairwise R:=by
 rw [ca]
 intro i j hi hj e
 obtain ⟨k,rfl⟩: ∃k,j=i+1+k:=⟨j - (i+1),by omega⟩
 induction k with
 | zero=>exact h i hj
 | succ k ih=>exact d _ _ _ (ih (by omega) (by omega)) (h (i+1+k) hj)
theorem Fs {v:List Mark}:Xr v=true↔MayP v:=by
 unfold Xr
 rw [cb,LF]
 constructor
 ·intro h
  refine ⟨yR (λa b c h1 h2=>by omega) λi hi=> ?_,λx d=> ?_⟩
  ·have:=h (i+1) v[i+1] (ao hi)
   simp only [b5,bA,decide_eq_false_iff_not,bs] at this
   have j:=this.2
   have e:v.getD (i+1 - 1) v[i+1]=v[i]:=by
    rw [b6,aB,ao (by omega)];rfl
   rw [e] at j
   omega
  ·obtain ⟨i,hi⟩:=List.getElem?_of_mem d
   have:=h i x hi
   simp only [b5,decide_eq_false_iff_not] at this
   omega
 ·intro h i x d
  have h1:=h.ok x (b4 d)
  simp only [b5,bA,decide_eq_false_iff_not,bs]
  refine ⟨by omega,?_⟩
  by_cases hi:0 < i
  ·refine .inr ?_
   have f:=(ad.1 d).1
   have e:v.getD (i - 1) x=v[i - 1]:=by
    rw [aB,ao (by omega)];rfl
   have:=ca.1 h.sorted (i - 1) i (by omega) f (by omega)
   rw [e]
   have g:v[i]=x:=by have:=(ad.1 d).2;exact this
   rw [g] at this
   omega
  ·exact .inl hi
theorem MayP.tail {x:Mark} {v:List Mark} (h:MayP (x::v)):MayP v:=⟨(a8.1 h.sorted).2,λy a=>h.ok y (a1 _ a)⟩
theorem MayP.nil:MayP []:=⟨.nil,λx a=>by simp at a⟩
theorem getM_none {v:List Mark} {r:Int} (h: ∀x∈v,x.r≠r):getM v r=0:=by
 induction v with
 | nil=>rfl
 | cons x v ih=>rw [getM,if_neg (h x a6)];exact ih λy a=>h y (a1 _ a)
theorem MayP.nonneg {v:List Mark} (h:MayP v) (r:Int):0<=getM v r:=by
 induction v with
 | nil=>exact eZ _
 | cons x v ih=>
   rw [getM]
   split
   ·have:=h.ok x a6;omega
   ·exact ih h.tail
theorem xH {v:List Mark} {r:Int} (h: ¬(VW v r=true)): ∀x∈v,x.r≠r:= λx a e=>h (bC.2 ⟨x,a,by simp [Ua,e]⟩)
theorem GR {c r a:Int}: ∀{v:List Mark},VW v r=true->getM (DV v c r) a=if a=r then max (getM v r) c else getM v a
 | [],h=>by simp [VW] at h
 | x::v,h=>by
   by_cases b:x.r=r
   ·simp only [DV,b,if_true,getM]
    by_cases hr:a=r
    ·simp [hr]
    ·have: ¬r=a:= λe=>hr e.symm
     simp [hr,this]
   ·have hv:VW v r=true:=by
     simp only [VW,ek,Ua,b,decide_false,bR] at h
     exact h
    simp only [DV,b,if_false,getM]
    by_cases hr:a=r
    ·subst hr
     simp only [b,if_false,if_true]
     rw [GR hv,if_pos rfl]
    ·simp only [hr,if_false]
     rw [GR hv,if_neg hr]
theorem Qy {c r a:Int}: ∀{v:List Mark},(∀x∈v,x.r≠r)->getM (Fi v c r) a=if a=r then c else getM v a
 | [],h=>by
   simp only [Fi,getM]
   by_cases hr:a=r
   ·simp [hr]
   ·have: ¬r=a:= λe=>hr e.symm
    simp [hr,this]
 | x::v,h=>by
   have b:=h x a6
   simp only [Fi]
   split
   ·simp only [getM]
    by_cases hr:a=r
    ·simp [hr]
    ·have: ¬r=a:= λe=>hr e.symm
     simp [hr,this]
   ·simp only [getM]
    rw [Qy λy d=>h y (a1 _ d)]
    by_cases hr:a=r
    ·subst hr;simp [b]
    ·simp [hr]
theorem DU (v:List Mark) (c r a:Int):getM (lz v c r) a=if a=r then max (getM v r) c else getM v a:=by
 unfold lz
 split
 ·rename_i h;exact GR h
 ·rename_i h
  have h0:=getM_none (xH h)
  split
  ·by_cases hr:a=r
   ·subst hr;rw [if_pos rfl,h0];omega
   ·rw [if_neg hr]
  ·rw [Qy (xH h)]
   by_cases hr:a=r
   ·subst hr;rw [if_pos rfl,if_pos rfl,h0];omega
   ·rw [if_neg hr,if_neg hr]
theorem NI {c r:Int}: ∀{v:List Mark} {y:Mark},y∈DV v c r-> ∃x∈v,x.r=y.r/\(y=x\/(x.r=r/\y.c=max x.c c))
 | [],y,h=>by simp [DV] at h
 | x::v,y,h=>by
   simp only [DV] at h
   split at h
   ·rename_i a
    rcases b1.1 h with rfl | h
    ·exact ⟨x,a6,rfl,.inr ⟨a,rfl⟩⟩
    ·exact ⟨y,a1 _ h,rfl,.inl rfl⟩
   ·rcases b1.1 h with rfl | h
    ·exact ⟨y,a6,rfl,.inl rfl⟩
    ·obtain ⟨z,hz,h1,h2⟩:=NI h
     exact ⟨z,a1 _ hz,h1,h2⟩
theorem LX {c r:Int}: ∀{v:List Mark} {y:Mark},y∈Fi v c r->y∈v\/y=⟨r,c⟩
 | [],y,h=>by simp [Fi] at h;exact .inr h
 | x::v,y,h=>by
   simp only [Fi] at h
   split at h
   ·rcases b1.1 h with rfl | h
    ·exact .inr rfl
    ·exact .inl h
   ·rcases b1.1 h with rfl | h
    ·exact .inl a6
    ·rcases LX h with h | h
     ·exact .inl (a1 _ h)
     ·exact .inr h
theorem Iu {c r:Int}: ∀{v:List Mark},v.Pairwise (λa b=>a.r < b.r)->(DV v c r).Pairwise λa b=>a.r < b.r
 | [],_=> .nil
 | x::v,h=>by
   obtain ⟨h1,h2⟩:=a8.1 h
   simp only [DV]
   split
   ·exact a8.2 ⟨h1,h2⟩
   ·refine a8.2 ⟨λy d=> ?_,Iu h2⟩
    obtain ⟨z,hz,e,_⟩:=NI d
    rw [<-e];exact h1 z hz
theorem IE {c r:Int}: ∀{v:List Mark},(∀x∈v,x.r≠r)->v.Pairwise (λa b=>a.r < b.r)->(Fi v c r).Pairwise λa b=>a.r < b.r
 | [],_,_=>List.pairwise_singleton _ _
 | x::v,hn,h=>by
   obtain ⟨h1,h2⟩:=a8.1 h
   have e:=hn x a6
   simp only [Fi]
   split
   ·rename_i hr
    refine a8.2 ⟨λy d=> ?_,h⟩
    rcases b1.1 d with rfl | d
    ·exact hr
    ·have:=h1 y d;show r < y.r;omega
   ·refine a8.2 ⟨λy d=> ?_,IE (λy d=>hn y (a1 _ d)) h2⟩
    rcases LX d with d | rfl
    ·exact h1 y d
    ·show x.r < r;omega
theorem MayP.raise {v:List Mark} (h:MayP v) {c r:Int} (hr:1<=r/\r<=255) (hc:c<=4611686018427387903):MayP (lz v c r):=by
 unfold lz
 split
 ·refine ⟨Iu h.sorted,λy a=> ?_⟩
  obtain ⟨x,b,e,h1 | ⟨_,h1⟩⟩:=NI a
  ·subst h1;exact h.ok y b
  ·have:=h.ok x b;rw [<-e,h1];omega
 ·rename_i hh
  split
  ·exact h
  ·refine ⟨IE (xH hh) h.sorted,λy a=> ?_⟩
   rcases LX a with a | rfl
   ·exact h.ok y a
   ·show 1<=r/\r<=255/\1<=c/\c<=4611686018427387903;omega
theorem Xn {a b:List Mark} (e:MayP a) (hb: ∀r,0<=getM b r):AV a b=true↔ ∀r,getM a r<=getM b r:=by
 unfold AV
 rw [cb,<-ck,bC]
 constructor
 ·intro h r
  by_cases hh:VW a r=true
  ·obtain ⟨x,c,hp⟩:=bC.1 hh
   simp only [Ua,decide_eq_true_eq] at hp
   subst hp
   have: ¬(decide (getM b x.r < getM a x.r)=true):= λd=>h ⟨x,c,d⟩
   simp only [decide_eq_true_eq] at this
   omega
  ·rw [getM_none (xH hh)];exact hb r
 ·rintro h ⟨x,_,c⟩
  simp only [decide_eq_true_eq] at c
  have:=h x.r
  omega
theorem Bool.eq_of_iff {a b:Bool} (h:a=true↔b=true):a=b:=by cases a<;>cases b<;>simp_all
def Qg (c r:Int):Bool:=decide (1<=c)&&decide (c<=4611686018427387903)&&decide (1<=r)&&decide (r<=255)
end Go.AM
namespace Go.AM
theorem Fu (b c d:Bool):ae (.bool b) (λ_=>some [IV.bool c]) (λ_=>some [IV.bool d])=some [IV.bool (cond b c d)]:=by cases b<;>rfl
def kY (s:ByteArray) (i:Nat):Option Nat:=(s.data.toList[i]?).map (·.toNat)
def IM (s:ByteArray) (i lo hi:Nat):Bool:=match kY s i with | some b=>decide (lo<=b)&&decide (b<=hi) | none=>false
theorem abP (s:ByteArray) (i:Nat):s[i]? =s.data.toList[i]? :=by
 rw [Array.getElem?_toList]
 unfold getElem?
 rfl
theorem BV (s:ByteArray):s.data.toList.length=s.size:=by rw [Array.length_toList];rfl
theorem HS {s:ByteArray} {i b:Nat} (h:kY s i=some b):i < s.size/\b < 256:=by
 unfold kY at h
 obtain ⟨x,a,rfl⟩:=cl.1 h
 exact ⟨by rw [<-BV];exact (ad.1 a).1,x.toNat_lt⟩
theorem Iq {s:ByteArray} {i:Nat} (h:i < s.size): ∃b,kY s i=some b:=by
 unfold kY
 rw [ao (by rw [BV];exact h)]
 exact ⟨_,rfl⟩
theorem Ve {s:ByteArray} {i:Nat} (h:s.size<=i):kY s i=none:=by
 unfold kY
 rw [b2 (by rw [BV];exact h)]
 rfl
theorem ad7 (s:ByteArray) (i:Nat):GV (.str s) (.int .i64 (i:Int))=(kY s i).map λb=> .int .u8 (b:Int):=by
 simp only [GV,ds,abP,kY,Option.map_map]
 rw [if_pos (by omega)]
 rfl
def sgn (s:ByteArray) (i:Nat):Nat:=
 if IM s i 0 127=true then 1
 else if (IM s i 194 223&&IM s (i+1) 128 191)=true then 2
 else if (IM s (i+2) 128 191&&(IM s i 224 224&&IM s (i+1) 160 191||IM s i 225 236&&IM s (i+1) 128 191||IM s i 238 239&&IM s (i+1) 128 191||IM s i 237 237&&IM s (i+1) 128 159))=true then 3
 else if (IM s (i+2) 128 191&&IM s (i+3) 128 191&&(IM s i 240 240&&IM s (i+1) 144 191||IM s i 241 243&&IM s (i+1) 128 191||IM s i 244 244&&IM s (i+1) 128 143))=true then 4
 else 0
theorem xl {i k:Nat} (h:i+k < 2 ^ 62):aa .add (.int .i64 (i:Int)) (.int .i64 (k:Int))=some (.int .i64 ((i+k:Nat):Int)):=by
 rw [AE (by omega) (by omega)];rfl
theorem afc {s:ByteArray} {i:Nat}:i+sgn s i<=s.size\/sgn s i=0:=by
 have a: ∀{j lo hi:Nat},IM s j lo hi=true->j < s.size:= λ{j lo hi} h=>by
  unfold IM at h
  cases hb:kY s j with
  | none=>rw [hb] at h;cases h
  | some b=>exact (HS hb).1
 unfold sgn
 split
 ·rename_i h;have:=a h;left;omega
 ·split
  ·rename_i h;simp only [bf] at h;have:=a h.2;left;omega
  ·split
   ·rename_i h;simp only [bf] at h;have:=a h.1;left;omega
   ·split
    ·rename_i h;simp only [bf] at h;have:=a h.1.2;left;omega
    ·right;rfl
def scan (s:ByteArray) (i:Nat):Nat:=if h:i < s.size/\sgn s i≠0 then scan s (i+sgn s i) else i
 termination_by s.size - i
 decreasing_by omega
def HA (s:ByteArray):Bool:=decide (scan s 0=s.size)
def tC (b:Nat):Nat×Nat×Nat×Bool:=
 if b < 128 then (0,128,191,true) else if b < 194 then (0,128,191,false) else if b < 224 then (1,128,191,true)
 else if b < 240 then (if b=224 then (2,160,191,true) else if b=237 then (2,128,159,true) else (2,128,191,true))
 else if b < 245 then (if b=240 then (3,144,191,true) else if b=244 then (3,128,143,true) else (3,128,191,true))
 else (0,128,191,false)
theorem SA (b:Nat):qW (.int .u8 (b:Int))=some [.int .i64 ((tC b).1:Int),.int .u8 ((tC b).2.1:Int),.int .u8 ((tC b).2.2.1:Int),.bool (tC b).2.2.2]:=by
 unfold qW tC
 simp only [al,dP,ab,aZ]
 have c1:((b:Int) < 128)=(b < 128):=propext (by omega)
 have c2:((b:Int) < 194)=(b < 194):=propext (by omega)
 have c3:((b:Int) < 224)=(b < 224):=propext (by omega)
 have c4:((b:Int) < 240)=(b < 240):=propext (by omega)
 have c5:((b:Int) < 245)=(b < 245):=propext (by omega)
 have c6:((b:Int)=224)=(b=224):=propext (by omega)
 have c7:((b:Int)=237)=(b=237):=propext (by omega)
 have a:((b:Int)=240)=(b=240):=propext (by omega)
 have c:((b:Int)=244)=(b=244):=propext (by omega)
 simp only [c1,c2,c3,c4,c5,c6,c7,a,c]
 repeat (first | rfl | split)
def tp:List Nat->Nat->Nat->Bool
 | [],_,_=>true
 | b::l,lo,hi=>decide (lo<=b)&&decide (b<=hi)&&tp l 128 191
def QG (b:Nat):List IV:=[.int .u8 (b:Int)]
theorem Xd {l:List Nat} (hl:l.length < 100) (lo hi:Nat):iter rounds (qQ (.int .i64 (l.length:Int)) (.lst (l.map QG))) [.int .u8 (lo:Int),.int .u8 (hi:Int),.int .i64 0]=some (if tp l lo hi=true then (0,[]) else (1,[])):=by
 rw [FR (vs0:=[.int .u8 (lo:Int),.int .u8 (hi:Int),.int .i64 0]) (λi (s:Nat×Nat)=>[IV.int .u8 (s.1:Int),.int .u8 (s.2:Int),.int .i64 (i:Int)]) (λi s b=>if b < s.1\/s.2 < b then .inr (1,[]) else .inl (128,191)) (λ_=>(0,[])) (λ_ _=>True) l (lo,hi) rfl (by have:rounds=1000000:=rfl;omega) trivial]
 ·congr 1
  have key: ∀(l:List Nat) (k lo hi:Nat),JA (λi (s:Nat×Nat) b=>if b < s.1\/s.2 < b then .inr (1,[]) else .inl (128,191)) (λ_=>((0,[]):Nat×List IV)) l k (lo,hi)=if tp l lo hi=true then (0,[]) else (1,[]):=by
   intro l
   induction l with
   | nil=>intro k lo hi;rfl
   | cons b l ih=>
     intro k lo hi
     simp only [JA,tp]
     by_cases h:b < lo\/hi < b
     ·rw [if_pos h]
      have: ¬(decide (lo<=b)&&decide (b<=hi)&&tp l 128 191)=true:=by
       simp only [bf,decide_eq_true_eq];omega
      simp only [this,if_false,a2]
     ·rw [if_neg h]
      have h1:lo<=b:=by omega
      have h2:b<=hi:=by omega
      simp only [h1,h2,decide_true,bd]
      exact ih (k+1) 128 191
  exact key l 0 lo hi
 ·intro i s b hb _
  have hi:i < l.length:=(ad.1 hb).1
  refine ⟨λ_ _=>trivial,?_⟩
  unfold qQ
  simp only [af,ai,ay,al,aW,ab,bM,hi,decide_true,ah,ea (enc:=QG) (sz:=1) hb rfl (Nat.zero_lt_one),b8 (enc:=QG) hb,QG,List.getElem?_cons_zero,aZ,au (show i < 2 ^ 62 by omega)]
  by_cases h1:b < s.1
  ·simp [h1]
  ·by_cases h2:s.2 < b
   ·simp [h1,h2]
   ·simp [h1,h2]
 ·intro s _
  unfold qQ
  simp
theorem YC (s:ByteArray): ∀i,(s.data.toList.map (·.toNat))[i]? =kY s i:= λi=>by rw [br];rfl
theorem acM {s:ByteArray} {i b:Nat} (hb:kY s i=some b):sgn s i=if (tC b).2.2.2=true/\(tC b).1 < s.size - i/\tp (((s.data.toList.map (·.toNat)).drop (i+1)).take (tC b).1) (tC b).2.1 (tC b).2.2.1=true then 1+(tC b).1 else 0:=by
 have hi:=(HS hb).1
 have key: ∀(n k:Nat),k<=s.size->s.size - k>=n+1-> ∃c,kY s k=some c/\((s.data.toList.map (·.toNat)).drop k).take (n+1)=c::((s.data.toList.map (·.toNat)).drop (k+1)).take n:= λn k hk hn=>by
  obtain ⟨c,hc⟩:=Iq (s:=s) (i:=k) (by omega)
  refine ⟨c,hc,?_⟩
  have A:k < (s.data.toList.map (·.toNat)).length:=by rw [a7,BV];omega
  rw [b7 A,List.take_succ_cons]
  congr 1
  have:=YC s k
  rw [ao A,hc] at this
  exact Option.some.inj this
 have none_: ∀{k lo hi:Nat},s.size<=k->IM s k lo hi=false:= λ{k lo hi} h=>by unfold IM;rw [Ve h]
 have some_: ∀{k c lo hi:Nat},kY s k=some c->IM s k lo hi=(decide (lo<=c)&&decide (c<=hi)):= λ{k c lo hi} h=>by unfold IM;rw [h]
 unfold sgn tC
 simp only [some_ hb]
 by_cases h1:b < 128
 ·have e:0 < s.size - i:=by omega
  simp [h1,tp,e,show b<=127 by omega]
 have l: ¬b<=127:=by omega
 by_cases h2:b < 194
 ·have q1: ¬194<=b:=by omega
  have E: ¬224<=b:=by omega
  have F: ¬225<=b:=by omega
  have G: ¬238<=b:=by omega
  have H: ¬237<=b:=by omega
  have r: ¬240<=b:=by omega
  have t: ¬241<=b:=by omega
  have u: ¬244<=b:=by omega
  simp [h1,h2,l,q1,E,F,G,H,r,t,u]
 have q:194<=b:=by omega
 by_cases o:b < 224
 ·have q1:b<=223:=by omega
  have E: ¬224<=b:=by omega
  have F: ¬225<=b:=by omega
  have G: ¬238<=b:=by omega
  have H: ¬237<=b:=by omega
  have r: ¬240<=b:=by omega
  have t: ¬241<=b:=by omega
  have u: ¬244<=b:=by omega
  by_cases hlen:1 < s.size - i
  ·obtain ⟨c1,d,t1⟩:=key 0 (i+1) (by omega) (by omega)
   simp only [cO,bs] at t1
   simp [h1,h2,o,l,q,q1,E,F,G,H,r,t,u,hlen,t1,tp,some_ d]
  ·simp [h1,h2,o,l,q,q1,E,F,G,H,r,t,u,hlen,none_ (show s.size<=i+1 by omega)]
 have C: ¬b<=223:=by omega
 have D:224<=b:=by omega
 by_cases y:b < 240
 ·have r: ¬240<=b:=by omega
  have t: ¬241<=b:=by omega
  have u: ¬244<=b:=by omega
  by_cases hlen:2 < s.size - i
  ·obtain ⟨c1,d,t1⟩:=key 1 (i+1) (by omega) (by omega)
   obtain ⟨c2,p,t2⟩:=key 0 (i+1+1) (by omega) (by omega)
   simp only [cO,bs] at t2
   simp only [c9,t2] at t1
   have a:kY s (i+2)=some c2:=p
   by_cases f:b=224
   ·subst f
    simp [hlen,t1,tp,some_ d,some_ a,bB,bb,bx]
   ·by_cases g:b=237
    ·subst g
     simp [hlen,t1,tp,some_ d,some_ a,bB,bb,bx]
    ·have v: ¬b<=224:=by omega
     have w:225<=b:=by omega
     have x:b<=239:=by omega
     have m:(b<=236\/238<=b):=by omega
     have S: ¬(237<=b/\b<=237):=by omega
     simp only [h1,h2,o,y,f,g,l,C,q,D,r,t,u,hlen,t1,tp,some_ d,some_ a,v,w,x,if_true,if_false,decide_true,decide_false,bd,cd,c0,c8,a2,bR,dd,true_and]
     rcases m with m | m
     ·have I: ¬238<=b:=by omega
      have J: ¬(237<=b):=by omega
      simp [m,I,J,bB,bb,bx]
     ·have I: ¬b<=236:=by omega
      have J: ¬(b<=237):=by omega
      simp [m,I,J,bB,bb,bx]
  ·have z:=none_ (lo:=128) (hi:=191) (show s.size<=i+2 by omega)
   simp only [h1,h2,o,y,l,C,q,D,r,t,u,z,if_true,if_false,decide_true,decide_false,bd,cd,c0,c8,a2,bR,dd,true_and]
   by_cases f:b=224
   ·simp [f,hlen]
   ·by_cases g:b=237
    ·simp [g,hlen]
    ·simp [f,g,hlen]
 have M:240<=b:=by omega
 have N: ¬b<=224:=by omega
 have O: ¬b<=236:=by omega
 have P: ¬b<=239:=by omega
 have Q: ¬b<=237:=by omega
 have R: ¬b=224:=by omega
 by_cases K:b < 245
 ·by_cases hlen:3 < s.size - i
  ·obtain ⟨c1,d,t1⟩:=key 2 (i+1) (by omega) (by omega)
   obtain ⟨c2,p,t2⟩:=key 1 (i+1+1) (by omega) (by omega)
   obtain ⟨c3,L,t3⟩:=key 0 (i+1+1+1) (by omega) (by omega)
   simp only [cO,bs] at t3
   simp only [c9,t3] at t2
   simp only [c9,t2] at t1
   have a:kY s (i+2)=some c2:=p
   have j:kY s (i+3)=some c3:=L
   by_cases f:b=240
   ·subst f
    simp [hlen,t1,tp,some_ d,some_ a,some_ j,bB,bb,bx]
   ·by_cases g:b=244
    ·subst g
     simp [hlen,t1,tp,some_ d,some_ a,some_ j,bB,bb,bx]
    ·have v: ¬b<=240:=by omega
     have w:241<=b:=by omega
     have x:b<=243:=by omega
     have m: ¬244<=b:=by omega
     simp [h1,h2,o,y,K,f,g,l,C,q,D,M,N,O,P,Q,hlen,t1,tp,some_ d,some_ a,some_ j,v,w,x,m,bB,bb,bx]
  ·have z:=none_ (lo:=128) (hi:=191) (show s.size<=i+3 by omega)
   simp only [h1,h2,o,y,K,l,C,q,D,M,N,O,P,Q,z,if_true,if_false,decide_true,decide_false,bd,cd,c0,c8,a2,bR,dd,true_and]
   by_cases f:b=240
   ·simp [f,hlen]
   ·by_cases g:b=244
    ·simp [g,hlen]
    ·simp [f,g,hlen]
 ·have v: ¬b<=240:=by omega
  have w: ¬b<=243:=by omega
  have x: ¬b<=244:=by omega
  simp [h1,h2,o,y,K,l,C,q,D,M,N,O,P,Q,v,w,x]
theorem Ox (s:ByteArray) (a b:Nat):(s.extract a b).data.toList.map (·.toNat)=((s.data.toList.map (·.toNat)).drop a).take (b - a):=by
 have:(s.extract a b).data=s.data.extract a b:=by rw [ByteArray.data_extract]
 rw [this,Array.toList_extract,List.extract_eq_take_drop,et,List.map_drop]
theorem Ys {s:ByteArray} (hs:s.size < 2 ^ 40) {n i:Nat} (hn:n < 2 ^ 40) (hi:i < s.size):kF (.str s) [.int .i64 (n:Int),.int .i64 (i:Int)]=some (if sgn s i≠0 then .next [.int .i64 ((n+1:Nat):Int),.int .i64 ((i+sgn s i:Nat):Int)] else .done 0 [.int .i64 (n:Int),.int .i64 (i:Int)]):=by
 obtain ⟨b,hb⟩:=Iq hi
 have p:=(HS hb).2
 have hr:(tC b).1<=3:=by unfold tC;repeat (first | split | simp)
 rw [acM hb]
 unfold kF
 have c:aa .sub (.int .i64 (s.size:Int)) (.int .i64 (i:Int))=some (.int .i64 ((s.size - i:Nat):Int)):=by
  rw [pU (by omega) (by omega)];congr 2;omega
 simp only [qG,ai,af,ay,az,al,bM,ab,hi,decide_true,ah,ad7,hb,a5,SA,aX,c,gG,Int.ofNat_le,cm,cb]
 generalize r:tC b=x at hr ⊢
 obtain ⟨rest,lo,e,is⟩:=x
 simp only at hr ⊢
 cases is with
 | false=>simp
 | true=>
   simp only [Bool.true_eq_false,if_false,ab,af,true_and]
   by_cases hle:s.size - i<=rest
   ·have: ¬rest < s.size - i:=by omega
    simp [hle,this]
   ·have f:rest < s.size - i:=by omega
    have k:aa .add (.int .i64 (i:Int)) (.int .i64 1)=some (.int .i64 ((i+1:Nat):Int)):=au (by omega)
    have m:aa .add (.int .i64 ((i+1:Nat):Int)) (.int .i64 (rest:Int))=some (.int .i64 ((i+1+rest:Nat):Int)):=xl (by omega)
    have a3:aa .add (.int .i64 1) (.int .i64 (rest:Int))=some (.int .i64 ((1+rest:Nat):Int)):=xl (i:=1) (by omega)
    have a4:aa .add (.int .i64 (i:Int)) (.int .i64 ((1+rest:Nat):Int))=some (.int .i64 ((i+(1+rest):Nat):Int)):=xl (by omega)
    have o:aa .add (.int .i64 (n:Int)) (.int .i64 1)=some (.int .i64 ((n+1:Nat):Int)):=au (by omega)
    have j: ∀(n i:Nat),i<=n->Uh (.int .i64 (i:Int)) n=some i:= λn i h=>by
     simp only [Uh];rw [if_pos (by omega)];simp
    have g:fE (.str s) (some (.int .i64 ((i+1:Nat):Int))) (some (.int .i64 ((i+1+rest:Nat):Int)))=some (.str (s.extract (i+1) (i+1+rest))):=by
     simp only [fE,kV,j s.size (i+1+rest) (by omega),j (i+1+rest) (i+1) (by omega),ab]
    generalize hl:((s.data.toList.map (·.toNat)).drop (i+1)).take rest=l
    have q:l.length=rest:=by
     rw [<-hl];simp only [List.length_take,List.length_drop,a7,BV];omega
    have d:V8 (.str (s.extract (i+1) (i+1+rest)))=some (.lst (l.map QG)):=by
     simp only [V8]
     congr 2
     have h1:(s.extract (i+1) (i+1+rest)).data.toList.map (λb=>[IV.int .u8 (b.toNat:Int)])=((s.extract (i+1) (i+1+rest)).data.toList.map (·.toNat)).map QG:=by
      rw [List.map_map];rfl
     rw [h1,Ox,show i+1+rest - (i+1)=rest by omega,hl]
    simp only [decide_eq_true_eq,hle,if_false,k,m,g,d,ab,aw,a7,Xd (show l.length < 100 by omega),decide_false,a2,f,true_and]
    by_cases a:tp l lo e=true
    ·simp only [a,if_true,aJ,a3,a4,o,ab]
     rw [if_pos (by omega)]
     rfl
    ·simp only [a,if_false,Zi,a2]
     simp
theorem LP {s:ByteArray} (hs:s.size < 2 ^ 39): ∀(m n i:Nat),i<=s.size->n<=i->s.size - i < m-> ∃k:Nat,iter m (kF (.str s)) [.int .i64 (n:Int),.int .i64 (i:Int)]=some (0,[.int .i64 (k:Int),.int .i64 (scan s i:Int)])
 | 0,n,i,_,_,h=>by omega
 | m+1,n,i,hi,hn,hm=>by
   by_cases h:i < s.size
   ·simp only [iter,Ys (show s.size < 2 ^ 40 by omega) (show n < 2 ^ 40 by omega) h,ab]
    rw [scan]
    by_cases h2:sgn s i=0
    ·have: ¬(i < s.size/\sgn s i≠0):= λhh=>hh.2 h2
     rw [dif_neg this]
     simp only [h2,ne_eq,not_true_eq_false,if_false]
     exact ⟨n,rfl⟩
    ·have hle:=afc (s:=s) (i:=i)
     rw [dif_pos ⟨h,h2⟩]
     simp only [ne_eq,h2,not_false_eq_true,if_true]
     exact LP hs m (n+1) (i+sgn s i) (by omega) (by omega) (by omega)
   ·have hf:kF (.str s) [.int .i64 (n:Int),.int .i64 (i:Int)]=some (.done 0 [.int .i64 (n:Int),.int .i64 (i:Int)]):=by
     unfold kF
     simp only [qG,ai,af,al,bM,ab,h,decide_false,ag]
    rw [scan,dif_neg (λhh=>h hh.1)]
    exact ⟨n,by simp only [iter,hf,ab]⟩
theorem C1 {s:ByteArray} (hs:s.size < 2 ^ 19):jE (.str s)=some [.bool (HA s)]:=by
 unfold jE sL HA
 obtain ⟨k,hk⟩:=LP (s:=s) (by omega) rounds 0 0 (eP _) (eW _) (by have:rounds=1000000:=rfl;omega)
 rw [show (IV.int .i64 0)= .int .i64 ((0:Nat):Int) from rfl,hk]
 simp only [ab,aJ,af,ai,xg,cX,a5,qG,dP,df]
 congr 3
 exact decide_eq_decide.2 (by omega)
end Go.AM
namespace Go.AM
def xY {α:Type} (R:α->α->Bool):List α->Bool
 | []=>true
 | [_]=>true
 | x::y::l=>R x y&&xY R (y::l)
theorem EZ {α:Type} {R:α->α->Bool}: ∀{l:List α},xY R l=true↔ ∀(i:Nat) (x y:α),l[i]? =some x->l[i+1]? =some y->R x y=true
 | []=>by simp [xY]
 | [x]=>by simp [xY]
 | x::y::l=>by
   simp only [xY,bf]
   rw [EZ]
   constructor
   ·rintro ⟨h1,h2⟩ i a b c hb
    cases i with
    | zero=>cases c;cases hb;exact h1
    | succ i=>exact h2 i a b (by simpa using c) (by simpa using hb)
   ·intro h
    exact ⟨h 0 x y rfl rfl,λi a b c hb=>h (i+1) a b (by simpa using c) (by simpa using hb)⟩
theorem abC {α:Type} {R:α->α->Bool} {l:List α}:anyI (λi x=>decide (0 < i)&& !R (l.getD (i - 1) x) x) l 0= !xY R l:=by
 have key:anyI (λi x=>decide (0 < i)&& !R (l.getD (i - 1) x) x) l 0=false↔xY R l=true:= ?_
 ·cases h1:anyI (λi x=>decide (0 < i)&& !R (l.getD (i - 1) x) x) l 0<;>cases h2:xY R l<;>simp_all
 rw [LF,EZ]
 constructor
 ·intro h i x y a d
  have:=h (i+1) y d
  simp only [bs,Nat.lt_add_left_iff_pos,bA,decide_eq_false_iff_not,dq,b6] at this
  have b:l.getD i y=x:=by rw [aB,a];rfl
  rw [b] at this
  rcases this with h1 | h1
  ·omega
  ·exact h1
 ·intro h i x a
  simp only [bs,bA,decide_eq_false_iff_not,dq]
  cases i with
  | zero=>exact .inl (by omega)
  | succ i=>
    have c:=(ad.1 a).1
    have hp:l[i]? =some l[i]:=ao (by omega)
    have b:l.getD i x=l[i]:=by rw [aB,hp];rfl
    rw [b6,b]
    exact .inr (h i _ _ hp a)
def befB (c r c' a:Int):Bool:=decide (c < c')||decide (c=c')&&decide (r < a)
def FP (a b:Mv):Bool:=befB a.c a.r b.c b.r
def WC (ch par:Int) (nm:ByteArray):Bool:=decide (1<=ch)&&decide (ch<=2147483647)&&decide (0<=par)&&decide (par<=2147483647)&&decide (nm.size<=64)&&HA nm
def oneV (m:Mv):Bool:=Qg m.c m.r&&WC m.ch m.par m.nm
def mayV (l:List Mv):Bool:=decide (l.length<=2000)&&(l.all oneV&&xY FP l)
theorem Bp (ch par:Int) (nm:ByteArray) (x:IV):lY (.int .i64 ch) (.int .i64 par) (.str nm) x=some [.bool (WC ch par nm)]:=by
 unfold lY WC
 simp only [dw,gG,qG,ab,aZ]
 by_cases h1:1<=ch
 ·by_cases h2:ch<=2147483647
  ·by_cases a:0<=par
   ·by_cases b:par<=2147483647
    ·by_cases c:nm.size<=64
     ·have:((nm.size:Int)<=64):=by omega
      simp [h1,h2,a,b,c,this,C1 (show nm.size < 2 ^ 19 by omega)]
     ·have: ¬((nm.size:Int)<=64):=by omega
      simp [h1,h2,a,b,c,this]
    ·simp [h1,h2,a,b]
   ·simp [h1,h2,a]
  ·simp [h1,h2]
 ·simp [h1]
theorem RO (m:Mv):oB (.int .i64 m.c) (.int .i64 m.r) (.int .i64 m.par) (.int .i64 m.ch) (.str m.nm) (.flt .f64 m.rk)=some [.int .i64 m.ch,.int .i64 m.par,.str m.nm,.flt .f64 m.rk]:=by
 unfold oB;simp
theorem ER (m:Mv):oy (.int .i64 m.c) (.int .i64 m.r) (.int .i64 m.par) (.int .i64 m.ch) (.str m.nm) (.flt .f64 m.rk)=some [.int .i64 m.ch,.int .i64 m.par,.str m.nm,.flt .f64 m.rk]:=by
 unfold oy;simp
theorem yq (m:Mv):ll (.int .i64 m.c) (.int .i64 m.r) (.int .i64 m.par) (.int .i64 m.ch) (.str m.nm) (.flt .f64 m.rk)=some [.bool (oneV m)]:=by
 unfold ll oneV Qg
 simp only [ER,dw,gG,ab,af,ai,ay,az,Bp,aZ]
 by_cases h1:1<=m.c
 ·by_cases h2:m.c<=4611686018427387903
  ·by_cases a:1<=m.r
   ·by_cases b:m.r<=255
    ·simp [h1,h2,a,b]
    ·simp [h1,h2,a,b]
   ·simp [h1,h2,a]
  ·simp [h1,h2]
 ·simp [h1]
theorem Qr: ∀{l:List Mv} {v:List Mark},MayP v->(∀m∈l,1<=m.c/\m.c<=4611686018427387903/\1<=m.r/\m.r<=255)->MayP (l.foldl (λv m=>lz v m.c m.r) v)
 | [],v,hv,_=>hv
 | m::l,v,hv,h=>by
   have hm:=h m a6
   exact Qr (l:=l) (hv.raise (c:=m.c) (r:=m.r) hm.2.2 hm.2.1) λx a=>h x (a1 _ a)
theorem Ni (r:Int): ∀(l:List Mv) (v:List Mark),getM (l.foldl (λv m=>lz v m.c m.r) v) r=l.foldl (λn m=>if r=m.r then max n m.c else n) (getM v r)
 | [],v=>rfl
 | m::l,v=>by
   simp only [b0]
   rw [Ni r l,DU]
   congr 1
   split
   ·rename_i e;rw [e]
   ·rfl
def supV (r:Int) (l:List Mv) (n:Int):Int:=l.foldl (λn m=>if r=m.r then max n m.c else n) n
theorem aaZ {l:List Mv} {n:Nat} (h:ZG l n=true):l.length<=n:=by
 unfold ZG at h
 simp only [bf,decide_eq_true_eq] at h
 exact h.1
theorem aaI {l:List Mv} {i:Nat} (hi:i<=l.length):kN 6 (bg l) none (some (.int .i64 (i:Int)))=some (bg (l.take i)):=by
 simp only [kN]
 rw [if_pos (by simp [eMv])]
 simp only [a7,M8 hi,ab,cv,Nat.sub_zero]
 rw [<-et]
theorem UJ: ∀(v:List Mark) (n:Int),∀x∈v,x.c<=GC v n
 | [],n,x,h=>by simp at h
 | y::v,n,x,h=>by
   rcases b1.1 h with rfl | h
   ·have:=KA v (max n x.c)
    simp only [GC,b0] at this ⊢
    omega
   ·exact UJ v (max n y.c) x h
theorem UE {v:List Mark} {n:Int} (h0:0<=n) (r:Int):getM v r<=GC v n:=by
 rw [RK]
 cases h:v.findIdx? (Ua r) with
 | none=>have:=KA v n;simp only;omega
 | some i=>
   obtain ⟨x,b,_⟩:=vj h
   have a:v.getD i ⟨0,0⟩=x:=by rw [aB,b];rfl
   simp only [a]
   exact UJ v n x (b4 b)
end Go.AM
