/- Plain lemmas on the abstract machine's operations and loops. -/
import Derived.Test.YtgoenohknokcmaaGreatSh
open Option renaming bind_some->ab,map_some->a7,map_eq_some_iff->cb
open List renaming getElem?_eq_some_iff->ad,getElem?_eq_getElem->al,getD_eq_getElem?_getD->ao,mem_cons_of_mem->aB,pairwise_cons->a2,mem_cons_self->a5,findIdx?_eq_some_iff_getElem->bb,getElem?_map->bd,mem_cons->bx,any_eq_true->bB,findIdx?_cons->bC,foldl_cons->bO,length_map->bR,mem_of_getElem?->b1,drop_eq_getElem_cons->b4,pairwise_iff_getElem->b5,all_cons->b7,drop_zero->cc,take_zero->cd,length_cons->c9,any_cons->dd,map_take->dq
open Bool renaming false_eq_true->a1,and_left_comm->a6,true_and->a8,and_eq_true->bm,and_assoc->br,and_eq_false_iff->bs,and_comm->bA,false_or->bM,or_eq_false_iff->b2,not_eq_true'->b6,not_eq_true->ca,false_and->ck,and_false->cl,and_true->cO,or_false->c0,not_eq_false'->c8
open Nat renaming zero_add->bf,add_sub_cancel->b3,reduceAdd->cv,zero_le->ds,le_refl->eg
open Go renaming IntKind->b0
set_option linter.unusedVariables false
set_option linter.unusedSimpArgs false
namespace Go.AM
@[simp] theorem af (x:IV) (l:List IV):nth (x::l) 0=x:=rfl
@[simp] theorem aga (x:IV) (l:List IV) (n:Nat):nth (x::l) (n+1)=nth l n:=by simp [nth]
@[simp] theorem ai (x y:IV) (l:List IV):nth (x::y::l) 1=y:=rfl
@[simp] theorem aA (x y z:IV) (l:List IV):nth (x::y::z::l) 2=z:=rfl
@[simp] theorem aD (x y z a:IV) (l:List IV):nth (x::y::z::a::l) 3=a:=rfl
@[simp] theorem cp (x y z a b:IV) (l:List IV):nth (x::y::z::a::b::l) 4=b:=rfl
@[simp] theorem cn (x y z a b c:IV) (l:List IV):nth (x::y::z::a::b::c::l) 5=c:=rfl
@[simp] theorem sZ (x y z a b c d:IV) (l:List IV):nth (x::y::z::a::b::c::d::l) 6=d:=rfl
@[simp] theorem ZS (x y z a b c d e:IV) (l:List IV):nth (x::y::z::a::b::c::d::e::l) 7=e:=rfl
@[simp] theorem ah {R:Type} (t e:Unit->Option R):ae (.bool true) t e=t ():=rfl
@[simp] theorem ag {R:Type} (t e:Unit->Option R):ae (.bool false) t e=e ():=rfl
theorem bw {R:Type} (p:Prop) [Decidable p] (t e:Unit->Option R):ae (.bool (decide p)) t e=if p then t () else e ():=by
 by_cases h:p<;>simp [h,ae]
theorem dr {R:Type} (b:Bool) (t e:Unit->Option R):ae (.bool b) t e=if b=true then t () else e ():=by cases b<;>rfl
@[simp] theorem an (k:b0) (a b:Int):aa .lss (.int k a) (.int k b)=some (.bool (decide (a < b))):=by simp [aa,cr]
@[simp] theorem gk (k:b0) (a b:Int):aa .leq (.int k a) (.int k b)=some (.bool (decide (a<=b))):=by simp [aa,cr]
@[simp] theorem aR (k:b0) (a b:Int):aa .gtr (.int k a) (.int k b)=some (.bool (decide (b < a))):=by simp [aa,cr]
@[simp] theorem dm (k:b0) (a b:Int):aa .geq (.int k a) (.int k b)=some (.bool (decide (b<=a))):=by simp [aa,cr]
@[simp] theorem db (k:b0) (a b:Int):aa .eql (.int k a) (.int k b)=some (.bool (decide (a=b))):=by
  simp only [aa,cr,if_true];congr 2
@[simp] theorem eb (k:b0) (a b:Int):aa .neq (.int k a) (.int k b)=some (.bool (decide (a≠b))):=by
  simp only [aa,cr,if_true,bne]
  congr 2
  by_cases h:a=b<;>simp [h]
@[simp] theorem Z5 (a b:Bool):Qy .eql (.bool a) (.bool b)=some (.bool (a==b)):=rfl
@[simp] theorem afH (a b:Bool):Qy .neq (.bool a) (.bool b)=some (.bool !(a==b)):=rfl
@[simp] theorem aY (b:Bool):ll .not (.bool b)=some (.bool !b):=rfl
theorem wrap64 {a:Int} (h1: -(2 ^ 63)<=a) (h2:a < 2 ^ 63):IntKind.i64.wrap a=a:=by
 rw [IntKind.wrap_i64];omega
theorem Ba {a b:Int} (h1: -(2 ^ 63)<=a+b) (h2:a+b < 2 ^ 63):aa .add (.int .i64 a) (.int .i64 b)=some (.int .i64 (a+b)):=by
 simp only [aa,cr,if_true,wrap64 h1 h2]
theorem qe {a b:Int} (h1: -(2 ^ 63)<=a - b) (h2:a - b < 2 ^ 63):aa .sub (.int .i64 a) (.int .i64 b)=some (.int .i64 (a - b)):=by
 simp only [aa,cr,if_true,wrap64 h1 h2]
theorem au {i:Nat} (h:i < 2 ^ 62):aa .add (.int .i64 (i:Int)) (.int .i64 1)=some (.int .i64 ((i+1:Nat):Int)):=by
 rw [Ba (by omega) (by omega)];rfl
theorem tq {i:Nat} (h:i < 2 ^ 62) (h0:0 < i):aa .sub (.int .i64 (i:Int)) (.int .i64 1)=some (.int .i64 ((i - 1:Nat):Int)):=by
 rw [qe (by omega) (by omega)]
 congr 2;omega
@[simp] theorem adf (k:b0) (a b:Int):imax (.int k a) (.int k b)=some (.int k (max a b)):=by
  simp only [imax,if_true]
  congr 2
  simp only [Int.max_def]
  split<;>split<;>omega
@[simp] theorem adT (k:b0) (a b:Int):Xy (.int k a) (.int k b)=some (.int k (min a b)):=by
  simp only [Xy,if_true]
  congr 2
  simp only [Int.min_def]
  split<;>split<;>omega
@[simp] theorem ax (es:List (List IV)):aC (.lst es)=some (.int .i64 es.length):=rfl
@[simp] theorem kV (s:ByteArray):ft (.str s)=some (.int .i64 s.size):=rfl
@[simp] theorem bZ (es:List (List IV)):cj (.lst es)=es.length:=rfl
@[simp] theorem YV (es:List (List IV)) (l h:Nat):Ej (.lst es) l h= .lst ((es.drop l).take (h - l)):=rfl
@[simp] theorem eh:aw []=some []:=rfl
@[simp] theorem fR (b:Bool) (l:List IV):aw (.bool b::l)=(aw l).map (.bool b:: ·):=by
  simp only [aw,b7,IV.scalar,a8];split<;>rfl
@[simp] theorem xl (k:b0) (n:Int) (l:List IV):aw (.int k n::l)=(aw l).map (.int k n:: ·):=by
  simp only [aw,b7,IV.scalar,a8];split<;>rfl
@[simp] theorem abR (k:FloatKind) (n:Nat) (l:List IV):aw (.flt k n::l)=(aw l).map (.flt k n:: ·):=by
  simp only [aw,b7,IV.scalar,a8];split<;>rfl
@[simp] theorem ag9 (s:ByteArray) (l:List IV):aw (.str s::l)=(aw l).map (.str s:: ·):=by
  simp only [aw,b7,IV.scalar,a8];split<;>rfl
@[simp] theorem aW {R:Type} (x:Option R) (l:List (Option R)):fg 0 (x::l)=x:=rfl
@[simp] theorem adU {R:Type} (x y:Option R) (l:List (Option R)):fg 1 (x::y::l)=y:=rfl
@[simp] theorem ahj {R:Type} (x y z:Option R) (l:List (Option R)):fg 2 (x::y::z::l)=z:=rfl
theorem dY {α:Type} {enc:α->List IV} {l:List α} {i:Nat} {x:α} {sz:Nat} (h:l[i]? =some x) (hs:(enc x).length=sz) (hp:0 < sz):aK (.lst (l.map enc)) (.int .i64 (i:Int)) sz=some i:=by
 have hi:i < l.length:=(ad.1 h).1
 simp only [aK]
 rw [if_pos]
 ·simp
 ·refine ⟨by omega,by simp;omega,?_,hp⟩
  simp only [Int.toNat_natCast,ao,bd,h,a7,Option.getD_some,hs]
theorem rM {α:Type} {enc:α->List IV} {l:List α} {i:Nat} {x:α} {sz:Nat} (h:l[i]? =some x) (hs:(enc x).length=sz):eo (.lst (l.map enc)) i 0 sz=some (enc x):=by
 simp only [eo,bd,h,a7,ab,bf,cc]
 rw [if_pos (by omega),<-hs,List.take_length]
theorem cf {α:Type} {enc:α->List IV} {l:List α} {i j:Nat} {x:α} (h:l[i]? =some x):dh (.lst (l.map enc)) i j=(enc x)[j]? :=by
 simp only [dh,bd,h,a7,ab]
theorem dj {n i:Nat} {k:b0} (h:i < n):bU n (.int k (i:Int))=some i:=by
 simp only [bU]
 rw [if_pos (by omega)];simp
def Ke {α a:Type} (step:Nat->a->α->a ⊕ (Nat×List IV)) (out:a->Nat×List IV):List α->Nat->a->Nat×List IV
 | [],_,s=>out s
 | x::xs,i,s=>match step i s x with | .inl b=>Ke step out xs (i+1) b | .inr p=>p
theorem Q6 {α b:Type} {f:List IV->Option SR} {enc:Nat->b->List IV} {step:Nat->b->α->b ⊕ (Nat×List IV)} {out:b->Nat×List IV} (I:Nat->b->Prop) (l:List α)
  (hs: ∀i s x,l[i]? =some x->I i s->(∀a,step i s x= .inl a->I (i+1) a)/\f (enc i s)=some (match step i s x with | .inl a=> .next (enc (i+1) a) | .inr p=> .done p.1 p.2))
  (he: ∀s,I l.length s->f (enc l.length s)=some (.done (out s).1 (out s).2)):
  ∀(n k:Nat) (s:b),k<=l.length->l.length - k < n->I k s->iter n f (enc k s)=some (Ke step out (l.drop k) k s)
 | 0,k,s,_,h,_=>by omega
 | n+1,k,s,hk,hn,e=>by
   by_cases h:k=l.length
   ·subst h
    simp only [iter,he s e,ab,List.drop_length,Ke]
   ·have c:k < l.length:=by omega
    have hx:l[k]? =some l[k]:=al c
    obtain ⟨h1,h2⟩:=hs k s l[k] hx e
    rw [b4 c]
    simp only [iter,h2,ab,Ke]
    cases d:step k s l[k] with
    | inl a=>exact Q6 I l hs he n (k+1) a (by omega) (by omega) (h1 a d)
    | inr p=>rfl
theorem FG {α a:Type} {f:List IV->Option SR} {vs0:List IV} (enc:Nat->a->List IV) (step:Nat->a->α->a ⊕ (Nat×List IV)) (out:a->Nat×List IV) (I:Nat->a->Prop) (l:List α) (s:a) (h0:vs0=enc 0 s) (hl:l.length < rounds) (c:I 0 s)
  (hs: ∀i s x,l[i]? =some x->I i s->(∀b,step i s x= .inl b->I (i+1) b)/\f (enc i s)=some (match step i s x with | .inl b=> .next (enc (i+1) b) | .inr p=> .done p.1 p.2))
  (he: ∀s,I l.length s->f (enc l.length s)=some (.done (out s).1 (out s).2)):iter rounds f vs0=some (Ke step out l 0 s):=by
 subst h0
 have:=Q6 I l hs he rounds 0 s (ds _) (by omega) c
 simpa using this
theorem lM {α:Type} {f:List IV->Option SR} {vs0:List IV} (enc:Nat->List IV) (p:α->Bool) (c:Nat) (b:Nat->List IV) (d:Nat) (a:List IV) (l:List α) (h0:vs0=enc 0) (hl:l.length < rounds)
  (hs: ∀i x,l[i]? =some x->f (enc i)=some (if p x=true then .done c (b i) else .next (enc (i+1)))) (he:f (enc l.length)=some (.done d a)):
  iter rounds f vs0=some (match l.findIdx? p with | some i=>(c,b i) | none=>(d,a)):=by
 rw [FG (vs0:=vs0) (λi (_:Unit)=>enc i) (λi _ x=>if p x=true then .inr (c,b i) else .inl ()) (λ_=>(d,a)) (λ_ _=>True) l () h0 hl trivial (λi s x hx _=>⟨λ_ _=>trivial,by rw [hs i x hx];split<;>rfl⟩) (λ_ _=>he)]
 have key: ∀(l:List α) (k:Nat),Ke (λi (_:Unit) x=>if p x=true then .inr (c,b i) else .inl ()) (λ_=>(d,a)) l k ()=match l.findIdx? p with | some i=>(c,b (k+i)) | none=>(d,a):=by
  intro l
  induction l with
  | nil=>intro k;rfl
  | cons x l ih=>
    intro k
    simp only [Ke,bC]
    by_cases h:p x=true
    ·simp [h]
    ·simp only [h,if_false,a1]
     rw [ih]
     cases l.findIdx? p with
     | none=>rfl
     | some i=>simp;congr 1;omega
 rw [key l 0]
 cases l.findIdx? p<;>simp
def anyI {α:Type} (bad:Nat->α->Bool):List α->Nat->Bool
 | [],_=>false
 | x::l,k=>bad k x||anyI bad l (k+1)
theorem Qn {α:Type} {bad:Nat->α->Bool}: ∀{l:List α} {k:Nat},anyI bad l k=true↔ ∃i x,l[i]? =some x/\bad (k+i) x=true
 | [],k=>by simp [anyI]
 | y::l,k=>by
   simp only [anyI,Bool.or_eq_true]
   rw [Qn]
   constructor
   ·rintro (h | ⟨i,x,h1,h2⟩)
    ·exact ⟨0,y,rfl,h⟩
    ·exact ⟨i+1,x,by simpa using h1,by rw [<-h2];congr 1;omega⟩
   ·rintro ⟨i,x,h1,h2⟩
    cases i with
    | zero=>cases h1;exact .inl h2
    | succ i=>exact .inr ⟨i,x,by simpa using h1,by rw [<-h2];congr 1;omega⟩
theorem KP {α:Type} {bad:Nat->α->Bool} {l:List α} {k:Nat}:anyI bad l k=false↔ ∀i x,l[i]? =some x->bad (k+i) x=false:=by
 rw [<-ca,Qn]
 constructor
 ·intro h i x hx
  rw [<-ca]
  exact λhb=>h ⟨i,x,hx,hb⟩
 ·rintro h ⟨i,x,hx,hb⟩
  rw [h i x hx] at hb;cases hb
theorem VJ {α:Type} {p:α->Bool}: ∀{l:List α} {k:Nat},anyI (λ_ x=>p x) l k=l.any p
 | [],_=>rfl
 | x::l,k=>by simp only [anyI,dd,VJ]
theorem NL {α:Type} {f:List IV->Option SR} {vs0:List IV} (enc:Nat->List IV) (bad:Nat->α->Bool) (c:Nat) (b:List IV) (d:Nat) (a:List IV) (l:List α) (h0:vs0=enc 0) (hl:l.length < rounds)
  (hs: ∀i x,l[i]? =some x->f (enc i)=some (if bad i x=true then .done c b else .next (enc (i+1)))) (he:f (enc l.length)=some (.done d a)):
  iter rounds f vs0=some (if anyI bad l 0=true then (c,b) else (d,a)):=by
 rw [FG (vs0:=vs0) (λi (_:Unit)=>enc i) (λi _ x=>if bad i x=true then .inr (c,b) else .inl ()) (λ_=>(d,a)) (λ_ _=>True) l () h0 hl trivial (λi s x hx _=>⟨λ_ _=>trivial,by rw [hs i x hx];split<;>rfl⟩) (λ_ _=>he)]
 have key: ∀(l:List α) (k:Nat),Ke (λi (_:Unit) x=>if bad i x=true then .inr (c,b) else .inl ()) (λ_=>(d,a)) l k ()=if anyI bad l k=true then (c,b) else (d,a):=by
  intro l
  induction l with
  | nil=>intro k;rfl
  | cons x l ih=>
    intro k
    simp only [Ke,anyI]
    by_cases h:bad k x=true
    ·simp [h]
    ·simp only [h,if_false,a1,bM]
     exact ih (k+1)
 rw [key l 0]
theorem kX {α a:Type} {f:List IV->Option SR} {vs0:List IV} (enc:Nat->a->List IV) (g:a->α->a) (b:Nat) (out:a->List IV) (I:Nat->a->Prop) (l:List α) (s:a) (h0:vs0=enc 0 s) (hl:l.length < rounds) (c:I 0 s)
  (hs: ∀i s x,l[i]? =some x->I i s->I (i+1) (g s x)/\f (enc i s)=some (.next (enc (i+1) (g s x)))) (he: ∀s,I l.length s->f (enc l.length s)=some (.done b (out s))):
  iter rounds f vs0=some (b,out (l.foldl g s)):=by
 rw [FG (vs0:=vs0) enc (λ_ s x=> .inl (g s x)) (λs=>(b,out s)) I l s h0 hl c (λi s x hx c=>⟨λd e=>by cases e;exact (hs i s x hx c).1,(hs i s x hx c).2⟩) he]
 congr 1
 have key: ∀(l:List α) (k:Nat) (s:a),Ke (λ_ s x=> .inl (g s x)) (λs=>(b,out s)) l k s=(b,out (l.foldl g s)):=by
  intro l
  induction l with
  | nil=>intro k s;rfl
  | cons x l ih=>intro k s;exact ih (k+1) (g s x)
 exact key l 0 s
end Go.AM
namespace Go.AM
theorem bg:rounds=1000000:=rfl
structure Mark where
 r:Int
 c:Int
 deriving DecidableEq
def Lq (m:Mark):List IV:=[.int .i64 m.r,.int .i64 m.c]
abbrev aQ (l:List Mark):IV:= .lst (l.map Lq)
theorem yK {l:List Mark} {i:Nat} {x:Mark} (h:l[i]? =some x):i < l.length/\aK (aQ l) (.int .i64 (i:Int)) 2=some i/\eo (aQ l) i 0 2=some [.int .i64 x.r,.int .i64 x.c]/\dh (aQ l) i 0=some (.int .i64 x.r)/\dh (aQ l) i 1=some (.int .i64 x.c)/\bU l.length (.int .i64 (i:Int))=some i:=
 ⟨(ad.1 h).1,dY h rfl (by decide),rM h rfl,cf h,cf h,dj (ad.1 h).1⟩
theorem ZB {l:List Mark} {i:Nat} {x:Mark} (h:l[i]? =some x) (c:Int):r8 (aQ l) i 1 [.int .i64 c]=some (aQ (l.set i ⟨x.r,c⟩)):=by
 simp only [r8,bd,h,a7,ab,Lq,c9,List.length_nil]
 rw [if_pos (by decide)]
 simp only [aQ,List.map_set]
 rfl
def Y7 (x:Int):List IV:=[.int .i64 x]
abbrev bD (l:List Int):IV:= .lst (l.map Y7)
theorem nk {l:List Int} {i:Nat} {x:Int} (h:l[i]? =some x):i < l.length/\aK (bD l) (.int .i64 (i:Int)) 1=some i/\eo (bD l) i 0 1=some [.int .i64 x]/\dh (bD l) i 0=some (.int .i64 x)/\bU l.length (.int .i64 (i:Int))=some i:=
 ⟨(ad.1 h).1,dY h rfl (by decide),rM h rfl,cf h,dj (ad.1 h).1⟩
def Qe {α:Type} (p:α->Bool) (l:List α):Int:=match l.findIdx? p with | some i=>(i:Int) | none=> -1
theorem Bw {α:Type} {p:α->Bool} {l:List α} (h:l.findIdx? p=none):Qe p l= -1:=by simp [Qe,h]
theorem A7 {α:Type} {p:α->Bool} {l:List α} {i:Nat} (h:l.findIdx? p=some i):Qe p l=(i:Int):=by simp [Qe,h]
theorem Ry {α:Type} {p:α->Bool} {l:List α}:(0<=Qe p l)↔l.any p=true:=by
 unfold Qe
 cases h:l.findIdx? p with
 | none=>
   simp only [List.findIdx?_eq_none_iff] at h
   constructor
   ·intro h0;simp at h0
   ·intro h0
    obtain ⟨x,hx,hp⟩:=bB.1 h0
    rw [h x hx] at hp;cases hp
 | some i=>
   simp only [Int.natCast_nonneg,true_iff]
   obtain ⟨hi,hp,_⟩:=bb.1 h
   exact bB.2 ⟨l[i],List.getElem_mem hi,hp⟩
theorem vZ {α:Type} {p:α->Bool} {l:List α} {i:Nat} (h:l.findIdx? p=some i): ∃x,l[i]? =some x/\p x=true:=by
 obtain ⟨hi,hp,_⟩:=bb.1 h
 exact ⟨l[i],al hi,hp⟩
theorem tZ {C:IV->List Nat->List (List IV)->Option (List IV)} {a:IV} {p:Mark->Bool} {l:List Mark} (hl:l.length < 2 ^ 16) (b: ∀x∈l,C a [1] [Lq x]=some [.bool (p x)]):
  bc C (aQ l) a=some [.int .i64 (Qe p l)]:=by
 unfold bc
 simp only [ax,ab]
 rw [lM (vs0:=[IV.int .i64 0]) (λi=>[IV.int .i64 (i:Int)]) p 1 (λi=>[IV.int .i64 (i:Int)]) 0 [] l rfl (by have:=bg;omega)]
 ·unfold Qe
  cases l.findIdx? p<;>simp
 ·intro i x hx
  have hi:i < l.length:=(ad.1 hx).1
  have hc:=b x (b1 hx)
  unfold iu
  unfold Lq at hc
  simp [yK hx,hc,dr,au (show i < 2 ^ 62 by omega)]
  split<;>rfl
 ·unfold iu
  simp
def getM:List Mark->Int->Int
 | [],_=>0
 | x::l,r=>if x.r=r then x.c else getM l r
def TC (r:Int) (x:Mark):Bool:=decide (x.r=r)
def VC (v:List Mark) (r:Int):Bool:=v.any (TC r)
def DI:List Mark->Int->Int->List Mark
 | [],_,_=>[]
 | x::l,c,r=>if x.r=r then ⟨x.r,max x.c c⟩::l else x::DI l c r
def Fx:List Mark->Int->Int->List Mark
 | [],c,r=>[⟨r,c⟩]
 | x::l,c,r=>if r < x.r then ⟨r,c⟩::x::l else x::Fx l c r
def jY (v:List Mark) (c r:Int):List Mark:=if VC v r=true then DI v c r else if c<=0 then v else Fx v c r
def A3 (a b:List Mark):Bool:= !a.any λx=>decide (getM b x.r < getM a x.r)
def Xd (v:List Mark):Bool:= !anyI (λi x=>decide (x.r < 1)||decide (255 < x.r)||decide (x.c < 1)||decide (4611686018427387903 < x.c)||(decide (0 < i)&&decide (x.r<=(v.getD (i - 1) x).r))) v 0
theorem Tl {r:Int}: ∀(l:List Mark),getM l r=match l.findIdx? (TC r) with | some i=>(l.getD i ⟨0,0⟩).c | none=>0
 | []=>rfl
 | x::l=>by
   simp only [getM,bC,TC,decide_eq_true_eq]
   by_cases h:x.r=r
   ·simp [h]
   ·simp only [h,if_false]
    rw [Tl l]
    cases l.findIdx? (TC r)<;>simp
theorem Yi {c r:Int}: ∀(l:List Mark) (i:Nat) (x:Mark),l.findIdx? (TC r)=some i->l[i]? =some x->DI l c r=l.set i ⟨x.r,max x.c c⟩
 | [],i,x,h,_=>by simp at h
 | y::l,i,x,h,hx=>by
   simp only [bC,TC,decide_eq_true_eq] at h
   by_cases a:y.r=r
   ·simp only [a,if_true,Option.some.injEq] at h
    subst h
    cases hx
    simp [DI,a]
   ·simp only [a,if_false] at h
    obtain ⟨j,hj,rfl⟩:=cb.1 h
    simp only [DI,a,if_false,List.set_cons_succ]
    rw [Yi l j x hj (by simpa using hx)]
theorem Yx {c r:Int}: ∀(l:List Mark),Fx l c r=l.take ((l.findIdx? λx=>decide (r < x.r)).getD l.length)++[⟨r,c⟩]++l.drop ((l.findIdx? λx=>decide (r < x.r)).getD l.length)
 | []=>rfl
 | x::l=>by
   simp only [Fx,bC,decide_eq_true_eq]
   by_cases h:r < x.r
   ·simp [h]
   ·simp only [h,if_false]
    rw [Yx l]
    cases l.findIdx? (λx=>decide (r < x.r))<;>simp
theorem Ay {l:List Mark} (hl:l.length < 2 ^ 16) (r:Int):kR (aQ l) (.int .i64 r)=some [.int .i64 (Qe (TC r) l),.bool (decide (0<=Qe (TC r) l))]:=by
 unfold kR
 rw [tZ hl (p:=TC r)]
 ·simp
 ·intro x _
  show kp (.int .i64 x.r) (.int .i64 x.c) (.ptr [.int .i64 r] 0)=_
  unfold kp
  simp [iW,TC]
theorem yP {l:List Mark} (hl:l.length < 2 ^ 16) (r:Int):mh (aQ l) (.int .i64 r)=some [.int .i64 (getM l r)]:=by
 unfold mh
 rw [Ay hl,Tl]
 cases h:l.findIdx? (TC r) with
 | none=>simp [Bw h]
 | some i=>
   obtain ⟨x,hx,_⟩:=vZ h
   have a:l.getD i ⟨0,0⟩=x:=by rw [ao,hx];rfl
   simp only [a]
   simp [A7 h,yK hx,bw]
theorem wg {l:List Int} (hl:l.length < 2 ^ 16) (n:Int):fI (.int .i64 n) (bD l)=some [.int .i64 (l.foldl max n)]:=by
 unfold fI
 simp only [ax,ab]
 rw [kX (vs0:=[IV.int .i64 n,.int .i64 0]) (λi (n:Int)=>[IV.int .i64 n,.int .i64 (i:Int)]) (λn x=>max n x) 0 (λn=>[.int .i64 n]) (λ_ _=>True) l n rfl (by have:=bg;omega) trivial]
 ·simp
 ·intro i s x hx _
  have hi:i < l.length:=(ad.1 hx).1
  refine ⟨trivial,?_⟩
  unfold qc
  simp [nk hx,au (show i < 2 ^ 62 by omega)]
 ·intro s _
  unfold qc
  simp
theorem H2 {l:List Mark} (hl:l.length < 2 ^ 16) {i:Nat} (hi:i<=l.length) (m:Mark):de (aQ l) (.int .i64 (i:Int)) (.lst [[.int .i64 m.r,.int .i64 m.c]])=some [aQ (l.take i++[m]++l.drop i)]:=by
 unfold de
 simp only [tm]
 rw [if_pos]
 ·simp [Lq]
 ·refine ⟨by omega,by simp;omega,by simp;omega,rfl⟩
theorem Xt {l:List Mark} (hl:l.length < 2 ^ 16):fm (aQ l)=some [aQ l]:=by
 unfold fm
 simp only [uY]
 rw [if_pos]
 refine ⟨by simp;omega,by simp [Lq,IV.scalar]⟩
theorem Bc {l:List Mark} (hl:l.length < 2 ^ 16) (c r:Int):kP (aQ l) (.int .i64 c) (.int .i64 r)=some [aQ (jY l c r)]:=by
 unfold kP jY VC
 rw [Xt hl]
 simp only [ab]
 rw [Ay hl]
 simp only [ab,ai,af,bw,Ry]
 by_cases h:l.any (TC r)=true
 ·simp only [h,if_true]
  obtain ⟨i,hi⟩: ∃i,l.findIdx? (TC r)=some i:=by
   cases hh:l.findIdx? (TC r) with
   | some i=>exact ⟨i,rfl⟩
   | none=>have:=Ry.2 h;rw [Bw hh] at this;omega
  obtain ⟨x,hx,_⟩:=vZ hi
  rw [A7 hi,Yi l i x hi hx]
  have a:=wg (l:=[c]) (by simp) x.c
  simp only [bD,Y7,List.map_cons,List.map_nil,bO,List.foldl_nil] at a
  simp [yK hx,a,ZB hx]
 ·simp only [h,if_false,a1]
  simp only [gk,ab,bw]
  split
  ·rfl
  ·rw [tZ hl (p:= λx=>decide (r < x.r))]
   ·rw [Yx]
    cases hh:l.findIdx? (λx=>decide (r < x.r)) with
    | none=>
      have:=H2 hl (eg _) ⟨r,c⟩
      simp only at this
      simp [Bw hh,this]
    | some i=>
      obtain ⟨hi,_⟩:=bb.1 hh
      have:=H2 hl (Nat.le_of_lt hi) ⟨r,c⟩
      simp only at this
      simp [A7 hh,this,bw,show ¬((i:Int) < 0) by omega]
   ·intro x _
    show kF (.int .i64 x.r) (.int .i64 x.c) (.ptr [.int .i64 c,.int .i64 r] 0)=_
    unfold kF
    simp [iW,gA]
end Go.AM
namespace Go.AM
theorem IG {c r:Int}: ∀(l:List Mark),(DI l c r).length=l.length
 | []=>rfl
 | x::l=>by simp only [DI];split<;>simp [IG l]
theorem H9 {c r:Int}: ∀(l:List Mark),(Fx l c r).length=l.length+1
 | []=>rfl
 | x::l=>by simp only [Fx];split<;>simp [H9 l]
theorem wz {c r:Int} (l:List Mark):(jY l c r).length<=l.length+1:=by
 unfold jY
 split
 ·rw [IG];omega
 ·split
  ·omega
  ·rw [H9];omega
structure Mv where
 c:Int
 r:Int
 par:Int
 ch:Int
 nm:ByteArray
 rk:Nat
 deriving DecidableEq
def eMv (m:Mv):List IV:=[.int .i64 m.c,.int .i64 m.r,.int .i64 m.par,.int .i64 m.ch,.str m.nm,.flt .f64 m.rk]
abbrev bh (l:List Mv):IV:= .lst (l.map eMv)
theorem ab9 {α:Type} {enc:α->List IV} {l:List α} {i n:Nat} {x:α} (h:l[i]? =some x) (hs:n<=(enc x).length):eo (.lst (l.map enc)) i 0 n=some ((enc x).take n):=by
 simp only [eo,bd,h,a7,ab,bf,cc]
 rw [if_pos (by omega)]
theorem wb {l:List Mv} {i:Nat} {x:Mv} (h:l[i]? =some x):i < l.length/\aK (bh l) (.int .i64 (i:Int)) 6=some i/\eo (bh l) i 0 6=some [.int .i64 x.c,.int .i64 x.r,.int .i64 x.par,.int .i64 x.ch,.str x.nm,.flt .f64 x.rk]/\eo (bh l) i 0 2=some [.int .i64 x.c,.int .i64 x.r]/\
  dh (bh l) i 0=some (.int .i64 x.c)/\dh (bh l) i 1=some (.int .i64 x.r)/\dh (bh l) i 2=some (.int .i64 x.par)/\dh (bh l) i 3=some (.int .i64 x.ch)/\dh (bh l) i 4=some (.str x.nm)/\dh (bh l) i 5=some (.flt .f64 x.rk)/\bU l.length (.int .i64 (i:Int))=some i:=
 ⟨(ad.1 h).1,dY h rfl (by decide),rM h rfl,ab9 h (by simp [eMv]),cf h,cf h,cf h,cf h,cf h,cf h,dj (ad.1 h).1⟩
def ofM (l:List Mv):List Mark:=l.foldl (λv m=>jY v m.c m.r) []
theorem EL: ∀(l:List Mv) (a:List Mark),(l.foldl (λv m=>jY v m.c m.r) a).length<=a.length+l.length
 | [],a=>by simp
 | x::b,a=>by
   have h1:=EL b (jY a x.c x.r)
   have h2:=wz (c:=x.c) (r:=x.r) a
   simp only [bO,c9] at h1 ⊢
   omega
theorem Uv {l:List Mv} (hl:l.length < 2 ^ 15):tD (bh l)=some [aQ (ofM l)]:=by
 unfold tD ofM
 simp only [ax,ab]
 rw [kX (vs0:=[.lst [],.int .i64 0]) (λi (v:List Mark)=>[aQ v,.int .i64 (i:Int)]) (λv x=>jY v x.c x.r) 0 (λv=>[aQ v]) (λi v=>v.length<=i) l [] rfl (by have:=bg;omega) (by simp)]
 ·simp
 ·intro i s x hx a
  have hi:i < l.length:=(ad.1 hx).1
  have:=wz (c:=x.c) (r:=x.r) s
  refine ⟨by omega,?_⟩
  unfold BS
  simp [wb hx,Bc (show s.length < 2 ^ 16 by omega),au (show i < 2 ^ 62 by omega)]
 ·intro s _
  unfold BS
  simp
theorem LY {a b:List Mark} (d:a.length < 2 ^ 16) (hb:b.length < 2 ^ 16):oe (aQ a) (aQ b)=some [.bool (A3 a b)]:=by
 unfold oe cF
 rw [tZ d (p:= λx=>decide (getM b x.r < getM a x.r))]
 ·simp only [ab,af,dm,Ry,fR,eh,a7,aY]
  congr 3
  unfold A3
  simp only [Bool.decide_eq_true]
 ·intro x _
  show kg (.int .i64 x.r) (.int .i64 x.c) (.ptr [aQ a] 0) (.ptr [aQ b] 0)=_
  unfold kg
  simp [iW,yP d,yP hb]
theorem yI {v:List Mark} (hv:v.length < 2 ^ 16):dB (aQ v)=some [.bool (Xd v)]:=by
 unfold dB Xd
 simp only [ax,ab]
 rw [NL (vs0:=[.int .i64 0]) (λi=>[IV.int .i64 (i:Int)]) (λi x=>decide (x.r < 1)||decide (255 < x.r)||decide (x.c < 1)||decide (4611686018427387903 < x.c)||(decide (0 < i)&&decide (x.r<=(v.getD (i - 1) x).r))) 1 [.bool false] 0 [] v rfl (by have:=bg;omega)]
 ·split<;>simp_all
 ·intro i x hx
  have hi:i < v.length:=(ad.1 hx).1
  unfold xT
  simp only [af,ai,an,aR,bR,Int.ofNat_lt,yK hx,decide_true,ah,ab,bw,au (show i < 2 ^ 62 by omega)]
  by_cases h1:x.r < 1
  ·simp [h1]
  by_cases h2:255 < x.r
  ·simp [h1,h2]
  by_cases a:x.c < 1
  ·simp [h1,h2,a]
  by_cases b:4611686018427387903 < x.c
  ·simp [h1,h2,a,b]
  by_cases d:0 < i
  ·have hp:v[i - 1]? =some (v.getD (i - 1) x):=by
    rw [ao,al (by omega)];rfl
   simp only [h1,h2,a,b,if_false,show (0:Int) < (i:Int) by omega,d,if_true,tq (show i < 2 ^ 62 by omega) d,ab,yK hp,dm,af,bw,decide_false,bM,decide_true,a8,decide_eq_true_eq]
   split<;>rfl
  ·simp [h1,h2,a,b,d,show ¬((0:Int) < (i:Int)) by omega]
 ·unfold xT
  simp
theorem acg {l:List Int} (hl:l.length < 2 ^ 20) (n:Int):bS 1 8 (bD l) (.lst [[.int .i64 n]])=some (bD (l++[n])):=by
 simp only [bS]
 rw [if_pos]
 ·simp [Y7]
 ·refine ⟨by simp;omega,rfl⟩
def topM (v:List Mark) (n:Int):Int:=v.foldl (λn x=>max n x.c) n
def YC (v:List Mark) (n r:Int):List IV:=if 4611686018427387903<=topM v (max 0 n)\/r < 1\/255 < r then [.int .i64 0,.int .i64 0,.bool false] else [.int .i64 (topM v (max 0 n)+1),.int .i64 r,.bool true]
theorem Km (v:List Mark): ∀n,n<=topM v n:=by
 unfold topM
 induction v with
 | nil=>intro n;exact Int.le_refl _
 | cons x v ih=>intro n;exact Int.le_trans (by omega) (ih (max n x.c))
theorem Dw {v:List Mark} (hv:v.length < 2 ^ 15) (n q r:Int):pY (aQ v) (.int .i64 n) (.int .i64 q) (.int .i64 r)=some (YC v n r):=by
 unfold pY
 simp only [ax,ab]
 rw [kX (vs0:=[.lst [[.int .i64 n]],.int .i64 0]) (λi (l:List Int)=>[bD l,.int .i64 (i:Int)]) (λl x=>l++[x.c]) 0 (λl=>[bD l]) (λi l=>l.length=i+1) v [n] rfl (by have:=bg;omega) rfl]
 ·have a: ∀(v:List Mark) (l:List Int),v.foldl (λl x=>l++[x.c]) l=l++v.map (·.c):=by
   intro v
   induction v with
   | nil=>intro l;simp
   | cons x v ih=>intro l;simp [ih]
  rw [a]
  simp only [ab,aW,af]
  rw [wg (by simp;omega)]
  have ht:([n]++v.map (·.c)).foldl max 0=topM v (max 0 n):=by
   unfold topM
   simp only [List.singleton_append,bO,List.foldl_map]
  rw [ht]
  have d:=Km v (max 0 n)
  unfold YC
  simp only [ab,af,dm,an,aR,bw]
  by_cases h1:4611686018427387903<=topM v (max 0 n)
  ·simp [h1]
  ·simp only [h1,if_false,false_or]
   rw [Ba (by omega) (by omega)]
   by_cases h2:r < 1
   ·simp [h2]
   ·by_cases b:255 < r
    ·simp [h2,b]
    ·simp [h2,b]
 ·intro i s x hx e
  have hi:i < v.length:=(ad.1 hx).1
  refine ⟨by simp;omega,?_⟩
  unfold wv
  simp [yK hx,acg (show s.length < 2 ^ 20 by omega),au (show i < 2 ^ 62 by omega)]
 ·intro s _
  unfold wv
  simp
theorem Y1 {l k:List Mark} (hl:l.length < 2 ^ 20) (hk:k.length < 2 ^ 20):bS 2 16 (aQ l) (aQ k)=some (aQ (l++k)):=by
 simp only [bS]
 rw [if_pos]
 ·simp
 ·refine ⟨by simp;omega,by simp [Lq]⟩
theorem KB {n i:Nat} {k:b0} (h:i<=n):TR (.int k (i:Int)) n=some i:=by
 simp only [TR]
 rw [if_pos (by omega)];simp
theorem Bm {n i:Nat} {k:b0} (h:i<=n):lj n (some (.int k (i:Int))) none=some (i,n):=by simp [lj,KB h]
theorem KT {n i:Nat} {k:b0} (h:i<=n):lj n none (some (.int k (i:Int)))=some (0,i):=by simp [lj,KB h]
end Go.AM
namespace Go.AM
theorem Typed.one_inv {s:Sh} {cs:List IV} (h:Typed [s] cs): ∃c,cs=[c]/\ShOK s c:=by
 match cs,h.1 with
 | [c],_=>exact ⟨c,rfl,h.2 0 s c rfl rfl⟩
theorem Typed.cons_inv {s:Sh} {l:List Sh} {cs:List IV} (h:Typed (s::l) cs): ∃c a,cs=c::a/\ShOK s c/\Typed l a:=by
 match cs,h.1 with
 | c::a,hl=>exact ⟨c,a,rfl,h.2 0 s c rfl rfl,by simpa using hl,λj b c' h1 h2=>h.2 (j+1) b c' (by simpa using h1) (by simpa using h2)⟩
theorem Typed.nil_inv {cs:List IV} (h:Typed [] cs):cs=[]:=List.length_eq_zero_iff.1 h.1
theorem acv {cs:List IV} (h:Typed [.int .i64] cs): ∃a,cs=[.int .i64 a]/\ -(2 ^ 63)<=a/\a < 2 ^ 63:=by
 obtain ⟨b,rfl,h0⟩:=h.one_inv
 cases h0 with
 | int k n h1=>
   simp only [Lit.wf,bm,decide_eq_true_eq] at h1
   have h1:IntKind.i64.min= -(2 ^ 63):=by rfl
   have h2:IntKind.i64.max=2 ^ 63 - 1:=by rfl
   exact ⟨n,rfl,by omega,by omega⟩
theorem TypedAll.cons_inv {l:List Sh} {L:List (List Sh)} {cs:List (List IV)} (h:TypedAll (l::L) cs): ∃c a,cs=c::a/\Typed l c/\TypedAll L a:=by
 cases h with
 | cons h t=>exact ⟨_,_,rfl,h,t⟩
theorem TypedAll.nil_inv {cs:List (List IV)} (h:TypedAll [] cs):cs=[]:=by cases h;rfl
end Go.AM
namespace Go.AM
structure MayP (v:List Mark):Prop where
 sorted:v.Pairwise λa b=>a.r < b.r
 ok: ∀x∈v,1<=x.r/\x.r<=255/\1<=x.c/\x.c<=4611686018427387903
theorem zf {α:Type} {R:α->α->Prop} (d: ∀a b c,R a b->R b c->R a c) {v:List α} (h: ∀(i:Nat) (hi:i+1 < v.length),R v[i] v[i+1]):v.Pairwise R:=by
 rw [b5]
 intro i j hi hj e
 obtain ⟨k,rfl⟩: ∃k,j=i+1+k:=⟨j - (i+1),by omega⟩
 induction k with
 | zero=>exact h i hj
 | succ k ih=>exact d _ _ _ (ih (by omega) (by omega)) (h (i+1+k) hj)
theorem ED {v:List Mark}:Xd v=true↔MayP v:=by
 unfold Xd
 rw [b6,KP]
 constructor
 ·intro h
  refine ⟨zf (λa b c h1 h2=>by omega) λi hi=> ?_,λx hx=> ?_⟩
  ·have:=h (i+1) v[i+1] (al hi)
   simp only [b2,bs,decide_eq_false_iff_not,bf] at this
   have g:=this.2
   have d:v.getD (i+1 - 1) v[i+1]=v[i]:=by
    rw [b3,ao,al (by omega)];rfl
   rw [d] at g
   omega
  ·obtain ⟨i,hi⟩:=List.getElem?_of_mem hx
   have:=h i x hi
   simp only [b2,decide_eq_false_iff_not] at this
   omega
 ·intro h i x hx
  have h1:=h.ok x (b1 hx)
  simp only [b2,bs,decide_eq_false_iff_not,bf]
  refine ⟨by omega,?_⟩
  by_cases hi:0 < i
  ·refine .inr ?_
   have e:=(ad.1 hx).1
   have d:v.getD (i - 1) x=v[i - 1]:=by
    rw [ao,al (by omega)];rfl
   have:=b5.1 h.sorted (i - 1) i (by omega) e (by omega)
   rw [d]
   have f:v[i]=x:=by have:=(ad.1 hx).2;exact this
   rw [f] at this
   omega
  ·exact .inl hi
theorem MayP.tail {x:Mark} {v:List Mark} (h:MayP (x::v)):MayP v:=⟨(a2.1 h.sorted).2,λy a=>h.ok y (aB _ a)⟩
theorem MayP.nil:MayP []:=⟨.nil,λx hx=>by simp at hx⟩
theorem getM_none {v:List Mark} {r:Int} (h: ∀x∈v,x.r≠r):getM v r=0:=by
 induction v with
 | nil=>rfl
 | cons x v ih=>rw [getM,if_neg (h x a5)];exact ih λy a=>h y (aB _ a)
theorem MayP.nonneg {v:List Mark} (h:MayP v) (r:Int):0<=getM v r:=by
 induction v with
 | nil=>exact Int.le_refl _
 | cons x v ih=>
   rw [getM]
   split
   ·have:=h.ok x a5;omega
   ·exact ih h.tail
theorem MayP.mem {v:List Mark} (h:MayP v) {x:Mark} (hx:x∈v):getM v x.r=x.c:=by
 induction v with
 | nil=>simp at hx
 | cons y v ih=>
   rw [getM]
   rcases bx.1 hx with rfl | hx
   ·rw [if_pos rfl]
   ·have:=(a2.1 h.sorted).1 x hx
    rw [if_neg (by omega)]
    exact ih h.tail hx
theorem xP {v:List Mark} {r:Int} (h: ¬(VC v r=true)): ∀x∈v,x.r≠r:= λx hx e=>h (bB.2 ⟨x,hx,by simp [TC,e]⟩)
theorem Hp {c r r':Int}: ∀{v:List Mark},VC v r=true->getM (DI v c r) r'=if r'=r then max (getM v r) c else getM v r'
 | [],h=>by simp [VC] at h
 | x::v,h=>by
   by_cases hx:x.r=r
   ·simp only [DI,hx,if_true,getM]
    by_cases hr:r'=r
    ·simp [hr]
    ·have: ¬r=r':= λe=>hr e.symm
     simp [hr,this]
   ·have hv:VC v r=true:=by
     simp only [VC,dd,TC,hx,decide_false,bM] at h
     exact h
    simp only [DI,hx,if_false,getM]
    by_cases hr:r'=r
    ·subst hr
     simp only [hx,if_false,if_true]
     rw [Hp hv,if_pos rfl]
    ·simp only [hr,if_false]
     rw [Hp hv,if_neg hr]
theorem QO {c r r':Int}: ∀{v:List Mark},(∀x∈v,x.r≠r)->getM (Fx v c r) r'=if r'=r then c else getM v r'
 | [],h=>by
   simp only [Fx,getM]
   by_cases hr:r'=r
   ·simp [hr]
   ·have: ¬r=r':= λe=>hr e.symm
    simp [hr,this]
 | x::v,h=>by
   have hx:=h x a5
   simp only [Fx]
   split
   ·simp only [getM]
    by_cases hr:r'=r
    ·simp [hr]
    ·have: ¬r=r':= λe=>hr e.symm
     simp [hr,this]
   ·simp only [getM]
    rw [QO λy a=>h y (aB _ a)]
    by_cases hr:r'=r
    ·subst hr;simp [hx]
    ·simp [hr]
theorem qO (v:List Mark) (c r r':Int):getM (jY v c r) r'=if r'=r then max (getM v r) c else getM v r':=by
 unfold jY
 split
 ·rename_i h;exact Hp h
 ·rename_i h
  have h0:=getM_none (xP h)
  split
  ·by_cases hr:r'=r
   ·subst hr;rw [if_pos rfl,h0];omega
   ·rw [if_neg hr]
  ·rw [QO (xP h)]
   by_cases hr:r'=r
   ·subst hr;rw [if_pos rfl,if_pos rfl,h0];omega
   ·rw [if_neg hr,if_neg hr]
theorem Lj {c r:Int}: ∀{v:List Mark} {y:Mark},y∈DI v c r-> ∃x∈v,x.r=y.r/\(y=x\/(x.r=r/\y.c=max x.c c))
 | [],y,h=>by simp [DI] at h
 | x::v,y,h=>by
   simp only [DI] at h
   split at h
   ·rename_i hx
    rcases bx.1 h with rfl | h
    ·exact ⟨x,a5,rfl,.inr ⟨hx,rfl⟩⟩
    ·exact ⟨y,aB _ h,rfl,.inl rfl⟩
   ·rcases bx.1 h with rfl | h
    ·exact ⟨y,a5,rfl,.inl rfl⟩
    ·obtain ⟨z,hz,h1,h2⟩:=Lj h
     exact ⟨z,aB _ hz,h1,h2⟩
theorem Lc {c r:Int}: ∀{v:List Mark} {y:Mark},y∈Fx v c r->y∈v\/y=⟨r,c⟩
 | [],y,h=>by simp [Fx] at h;exact .inr h
 | x::v,y,h=>by
   simp only [Fx] at h
   split at h
   ·rcases bx.1 h with rfl | h
    ·exact .inr rfl
    ·exact .inl h
   ·rcases bx.1 h with rfl | h
    ·exact .inl a5
    ·rcases Lc h with h | h
     ·exact .inl (aB _ h)
     ·exact .inr h
theorem Iz {c r:Int}: ∀{v:List Mark},v.Pairwise (λa b=>a.r < b.r)->(DI v c r).Pairwise λa b=>a.r < b.r
 | [],_=> .nil
 | x::v,h=>by
   obtain ⟨h1,h2⟩:=a2.1 h
   simp only [DI]
   split
   ·exact a2.2 ⟨h1,h2⟩
   ·refine a2.2 ⟨λy d=> ?_,Iz h2⟩
    obtain ⟨z,hz,e,_⟩:=Lj d
    rw [<-e];exact h1 z hz
theorem IC {c r:Int}: ∀{v:List Mark},(∀x∈v,x.r≠r)->v.Pairwise (λa b=>a.r < b.r)->(Fx v c r).Pairwise λa b=>a.r < b.r
 | [],_,_=>List.pairwise_singleton _ _
 | x::v,hn,h=>by
   obtain ⟨h1,h2⟩:=a2.1 h
   have hx:=hn x a5
   simp only [Fx]
   split
   ·rename_i hr
    refine a2.2 ⟨λy d=> ?_,h⟩
    rcases bx.1 d with rfl | d
    ·exact hr
    ·have:=h1 y d;show r < y.r;omega
   ·refine a2.2 ⟨λy d=> ?_,IC (λy d=>hn y (aB _ d)) h2⟩
    rcases Lc d with d | rfl
    ·exact h1 y d
    ·show x.r < r;omega
theorem MayP.raise {v:List Mark} (h:MayP v) {c r:Int} (hr:1<=r/\r<=255) (hc:c<=4611686018427387903):MayP (jY v c r):=by
 unfold jY
 split
 ·refine ⟨Iz h.sorted,λy a=> ?_⟩
  obtain ⟨x,hx,e,h1 | ⟨_,h1⟩⟩:=Lj a
  ·subst h1;exact h.ok y hx
  ·have:=h.ok x hx;rw [<-e,h1];omega
 ·rename_i hh
  split
  ·exact h
  ·refine ⟨IC (xP hh) h.sorted,λy a=> ?_⟩
   rcases Lc a with a | rfl
   ·exact h.ok y a
   ·show 1<=r/\r<=255/\1<=c/\c<=4611686018427387903;omega
theorem WL {a b:List Mark} (d:MayP a) (hb: ∀r,0<=getM b r):A3 a b=true↔ ∀r,getM a r<=getM b r:=by
 unfold A3
 rw [b6,<-ca,bB]
 constructor
 ·intro h r
  by_cases hh:VC a r=true
  ·obtain ⟨x,hx,hp⟩:=bB.1 hh
   simp only [TC,decide_eq_true_eq] at hp
   subst hp
   have: ¬(decide (getM b x.r < getM a x.r)=true):= λc=>h ⟨x,hx,c⟩
   simp only [decide_eq_true_eq] at this
   omega
  ·rw [getM_none (xP hh)];exact hb r
 ·rintro h ⟨x,_,hx⟩
  simp only [decide_eq_true_eq] at hx
  have:=h x.r
  omega
theorem Bool.eq_of_iff {a b:Bool} (h:a=true↔b=true):a=b:=by cases a<;>cases b<;>simp_all
def Qk (c r:Int):Bool:=decide (1<=c)&&decide (c<=4611686018427387903)&&decide (1<=r)&&decide (r<=255)
end Go.AM
namespace Go.AM
theorem UD (b c d:Bool):ae (.bool b) (λ_=>some [IV.bool c]) (λ_=>some [IV.bool d])=some [IV.bool (cond b c d)]:=by cases b<;>rfl
def mz (s:ByteArray) (i:Nat):Option Nat:=(s.data.toList[i]?).map (·.toNat)
def Ir (s:ByteArray) (i lo hi:Nat):Bool:=match mz s i with | some b=>decide (lo<=b)&&decide (b<=hi) | none=>false
theorem ab3 (s:ByteArray) (i:Nat):s[i]? =s.data.toList[i]? :=by
 rw [Array.getElem?_toList]
 unfold getElem?
 rfl
theorem sU (s:ByteArray):s.data.toList.length=s.size:=by rw [Array.length_toList];rfl
theorem HO {s:ByteArray} {i b:Nat} (h:mz s i=some b):i < s.size/\b < 256:=by
 unfold mz at h
 obtain ⟨x,hx,rfl⟩:=cb.1 h
 exact ⟨by rw [<-sU];exact (ad.1 hx).1,x.toNat_lt⟩
theorem Ig {s:ByteArray} {i:Nat} (h:i < s.size): ∃b,mz s i=some b:=by
 unfold mz
 rw [al (by rw [sU];exact h)]
 exact ⟨_,rfl⟩
theorem Ud {s:ByteArray} {i:Nat} (h:s.size<=i):mz s i=none:=by
 unfold mz
 rw [List.getElem?_eq_none (by rw [sU];exact h)]
 rfl
theorem acY (s:ByteArray) (i:Nat):Ho (.str s) (.int .i64 (i:Int))=(mz s i).map λb=> .int .u8 (b:Int):=by
 simp only [Ho,Int.toNat_natCast,ab3,mz,Option.map_map]
 rw [if_pos (by omega)]
 rfl
theorem adv {b:Nat} (h:b < 256):bE .i64 (.int .u8 (b:Int))=some (.int .i64 (b:Int)):=by
 simp only [bE]
 rw [wrap64 (by omega) (by omega)]
def sgn (s:ByteArray) (i:Nat):Nat:=
 if Ir s i 0 127=true then 1
 else if (Ir s i 194 223&&Ir s (i+1) 128 191)=true then 2
 else if (Ir s (i+2) 128 191&&(Ir s i 224 224&&Ir s (i+1) 160 191||Ir s i 225 236&&Ir s (i+1) 128 191||Ir s i 238 239&&Ir s (i+1) 128 191||Ir s i 237 237&&Ir s (i+1) 128 159))=true then 3
 else if (Ir s (i+2) 128 191&&Ir s (i+3) 128 191&&(Ir s i 240 240&&Ir s (i+1) 144 191||Ir s i 241 243&&Ir s (i+1) 128 191||Ir s i 244 244&&Ir s (i+1) 128 143))=true then 4
 else 0
theorem wW {i k:Nat} (h:i+k < 2 ^ 62):aa .add (.int .i64 (i:Int)) (.int .i64 (k:Int))=some (.int .i64 ((i+k:Nat):Int)):=by
 rw [Ba (by omega) (by omega)];rfl
theorem afo {s:ByteArray} {i:Nat}:i+sgn s i<=s.size\/sgn s i=0:=by
 have a: ∀{j lo hi:Nat},Ir s j lo hi=true->j < s.size:= λ{j lo hi} h=>by
  unfold Ir at h
  cases hb:mz s j with
  | none=>rw [hb] at h;cases h
  | some b=>exact (HO hb).1
 unfold sgn
 split
 ·rename_i h;have:=a h;left;omega
 ·split
  ·rename_i h;simp only [bm] at h;have:=a h.2;left;omega
  ·split
   ·rename_i h;simp only [bm] at h;have:=a h.1;left;omega
   ·split
    ·rename_i h;simp only [bm] at h;have:=a h.1.2;left;omega
    ·right;rfl
def scan (s:ByteArray) (i:Nat):Nat:=if h:i < s.size/\sgn s i≠0 then scan s (i+sgn s i) else i
 termination_by s.size - i
 decreasing_by omega
def xO (s:ByteArray):Bool:=decide (scan s 0=s.size)
def uh (b:Nat):Nat×Nat×Nat×Bool:=
 if b < 128 then (0,128,191,true) else if b < 194 then (0,128,191,false) else if b < 224 then (1,128,191,true)
 else if b < 240 then (if b=224 then (2,160,191,true) else if b=237 then (2,128,159,true) else (2,128,191,true))
 else if b < 245 then (if b=240 then (3,144,191,true) else if b=244 then (3,128,143,true) else (3,128,191,true))
 else (0,128,191,false)
theorem Tb (b:Nat):rF (.int .u8 (b:Int))=some [.int .i64 ((uh b).1:Int),.int .u8 ((uh b).2.1:Int),.int .u8 ((uh b).2.2.1:Int),.bool (uh b).2.2.2]:=by
 unfold rF uh
 simp only [an,db,ab,bw]
 have c1:((b:Int) < 128)=(b < 128):=propext (by omega)
 have c2:((b:Int) < 194)=(b < 194):=propext (by omega)
 have c3:((b:Int) < 224)=(b < 224):=propext (by omega)
 have c4:((b:Int) < 240)=(b < 240):=propext (by omega)
 have c5:((b:Int) < 245)=(b < 245):=propext (by omega)
 have c6:((b:Int)=224)=(b=224):=propext (by omega)
 have c7:((b:Int)=237)=(b=237):=propext (by omega)
 have a:((b:Int)=240)=(b=240):=propext (by omega)
 have c:((b:Int)=244)=(b=244):=propext (by omega)
 simp only [c1,c2,c3,c4,c5,c6,c7,a,c]
 repeat (first | rfl | split)
def ux:List Nat->Nat->Nat->Bool
 | [],_,_=>true
 | b::l,lo,hi=>decide (lo<=b)&&decide (b<=hi)&&ux l 128 191
def P7 (b:Nat):List IV:=[.int .u8 (b:Int)]
theorem W4 {l:List Nat} (hl:l.length < 100) (lo hi:Nat):iter rounds (rj (.int .i64 (l.length:Int)) (.lst (l.map P7))) [.int .u8 (lo:Int),.int .u8 (hi:Int),.int .i64 0]=some (if ux l lo hi=true then (0,[]) else (1,[])):=by
 rw [FG (vs0:=[.int .u8 (lo:Int),.int .u8 (hi:Int),.int .i64 0]) (λi (s:Nat×Nat)=>[IV.int .u8 (s.1:Int),.int .u8 (s.2:Int),.int .i64 (i:Int)]) (λi s b=>if b < s.1\/s.2 < b then .inr (1,[]) else .inl (128,191)) (λ_=>(0,[])) (λ_ _=>True) l (lo,hi) rfl (by have:rounds=1000000:=rfl;omega) trivial]
 ·congr 1
  have key: ∀(l:List Nat) (k lo hi:Nat),Ke (λi (s:Nat×Nat) b=>if b < s.1\/s.2 < b then .inr (1,[]) else .inl (128,191)) (λ_=>((0,[]):Nat×List IV)) l k (lo,hi)=if ux l lo hi=true then (0,[]) else (1,[]):=by
   intro l
   induction l with
   | nil=>intro k lo hi;rfl
   | cons b l ih=>
     intro k lo hi
     simp only [Ke,ux]
     by_cases h:b < lo\/hi < b
     ·rw [if_pos h]
      have: ¬(decide (lo<=b)&&decide (b<=hi)&&ux l 128 191)=true:=by
       simp only [bm,decide_eq_true_eq];omega
      simp only [this,if_false,a1]
     ·rw [if_neg h]
      have h1:lo<=b:=by omega
      have h2:b<=hi:=by omega
      simp only [h1,h2,decide_true,a8]
      exact ih (k+1) 128 191
  exact key l 0 lo hi
 ·intro i s b hb _
  have hi:i < l.length:=(ad.1 hb).1
  refine ⟨λ_ _=>trivial,?_⟩
  unfold rj
  simp only [af,ai,aA,an,aR,ab,Int.ofNat_lt,hi,decide_true,ah,dY (enc:=P7) (sz:=1) hb rfl (Nat.zero_lt_one),cf (enc:=P7) hb,P7,List.getElem?_cons_zero,bw,au (show i < 2 ^ 62 by omega)]
  by_cases h1:b < s.1
  ·simp [h1]
  ·by_cases h2:s.2 < b
   ·simp [h1,h2]
   ·simp [h1,h2]
 ·intro s _
  unfold rj
  simp
theorem WT (s:ByteArray): ∀i,(s.data.toList.map (·.toNat))[i]? =mz s i:= λi=>by rw [bd];rfl
theorem ab2 {s:ByteArray} {i b:Nat} (hb:mz s i=some b):sgn s i=if (uh b).2.2.2=true/\(uh b).1 < s.size - i/\ux (((s.data.toList.map (·.toNat)).drop (i+1)).take (uh b).1) (uh b).2.1 (uh b).2.2.1=true then 1+(uh b).1 else 0:=by
 have hi:=(HO hb).1
 have key: ∀(n k:Nat),k<=s.size->s.size - k>=n+1-> ∃c,mz s k=some c/\((s.data.toList.map (·.toNat)).drop k).take (n+1)=c::((s.data.toList.map (·.toNat)).drop (k+1)).take n:= λn k hk hn=>by
  obtain ⟨c,hc⟩:=Ig (s:=s) (i:=k) (by omega)
  refine ⟨c,hc,?_⟩
  have A:k < (s.data.toList.map (·.toNat)).length:=by rw [bR,sU];omega
  rw [b4 A,List.take_succ_cons]
  congr 1
  have:=WT s k
  rw [al A,hc] at this
  exact Option.some.inj this
 have none_: ∀{k lo hi:Nat},s.size<=k->Ir s k lo hi=false:= λ{k lo hi} h=>by unfold Ir;rw [Ud h]
 have some_: ∀{k c lo hi:Nat},mz s k=some c->Ir s k lo hi=(decide (lo<=c)&&decide (c<=hi)):= λ{k c lo hi} h=>by unfold Ir;rw [h]
 unfold sgn uh
 simp only [some_ hb]
 by_cases h1:b < 128
 ·have e:0 < s.size - i:=by omega
  simp [h1,ux,e,show b<=127 by omega]
 have l: ¬b<=127:=by omega
 by_cases h2:b < 194
 ·have q1: ¬194<=b:=by omega
  have F: ¬224<=b:=by omega
  have G: ¬225<=b:=by omega
  have H: ¬238<=b:=by omega
  have I: ¬237<=b:=by omega
  have r: ¬240<=b:=by omega
  have t: ¬241<=b:=by omega
  have u: ¬244<=b:=by omega
  simp [h1,h2,l,q1,F,G,H,I,r,t,u]
 have q:194<=b:=by omega
 by_cases o:b < 224
 ·have q1:b<=223:=by omega
  have F: ¬224<=b:=by omega
  have G: ¬225<=b:=by omega
  have H: ¬238<=b:=by omega
  have I: ¬237<=b:=by omega
  have r: ¬240<=b:=by omega
  have t: ¬241<=b:=by omega
  have u: ¬244<=b:=by omega
  by_cases hlen:1 < s.size - i
  ·obtain ⟨c1,d,t1⟩:=key 0 (i+1) (by omega) (by omega)
   simp only [cd,bf] at t1
   simp [h1,h2,o,l,q,q1,F,G,H,I,r,t,u,hlen,t1,ux,some_ d]
  ·simp [h1,h2,o,l,q,q1,F,G,H,I,r,t,u,hlen,none_ (show s.size<=i+1 by omega)]
 have C: ¬b<=223:=by omega
 have D:224<=b:=by omega
 by_cases y:b < 240
 ·have r: ¬240<=b:=by omega
  have t: ¬241<=b:=by omega
  have u: ¬244<=b:=by omega
  by_cases hlen:2 < s.size - i
  ·obtain ⟨c1,d,t1⟩:=key 1 (i+1) (by omega) (by omega)
   obtain ⟨c2,p,E⟩:=key 0 (i+1+1) (by omega) (by omega)
   simp only [cd,bf] at E
   simp only [cv,E] at t1
   have a:mz s (i+2)=some c2:=p
   by_cases f:b=224
   ·subst f
    simp [hlen,t1,ux,some_ d,some_ a,bA,a6,br]
   ·by_cases g:b=237
    ·subst g
     simp [hlen,t1,ux,some_ d,some_ a,bA,a6,br]
    ·have v: ¬b<=224:=by omega
     have w:225<=b:=by omega
     have x:b<=239:=by omega
     have m:(b<=236\/238<=b):=by omega
     have U: ¬(237<=b/\b<=237):=by omega
     simp only [h1,h2,o,y,f,g,l,C,q,D,r,t,u,hlen,t1,ux,some_ d,some_ a,v,w,x,if_true,if_false,decide_true,decide_false,a8,cO,ck,cl,a1,bM,c0,true_and]
     rcases m with m | m
     ·have J: ¬238<=b:=by omega
      have K: ¬(237<=b):=by omega
      simp [m,J,K,bA,a6,br]
     ·have J: ¬b<=236:=by omega
      have K: ¬(b<=237):=by omega
      simp [m,J,K,bA,a6,br]
  ·have z:=none_ (lo:=128) (hi:=191) (show s.size<=i+2 by omega)
   simp only [h1,h2,o,y,l,C,q,D,r,t,u,z,if_true,if_false,decide_true,decide_false,a8,cO,ck,cl,a1,bM,c0,true_and]
   by_cases f:b=224
   ·simp [f,hlen]
   ·by_cases g:b=237
    ·simp [g,hlen]
    ·simp [f,g,hlen]
 have N:240<=b:=by omega
 have O: ¬b<=224:=by omega
 have P: ¬b<=236:=by omega
 have Q: ¬b<=239:=by omega
 have R: ¬b<=237:=by omega
 have S: ¬b=224:=by omega
 by_cases L:b < 245
 ·by_cases hlen:3 < s.size - i
  ·obtain ⟨c1,d,t1⟩:=key 2 (i+1) (by omega) (by omega)
   obtain ⟨c2,p,E⟩:=key 1 (i+1+1) (by omega) (by omega)
   obtain ⟨c3,M,T⟩:=key 0 (i+1+1+1) (by omega) (by omega)
   simp only [cd,bf] at T
   simp only [cv,T] at E
   simp only [cv,E] at t1
   have a:mz s (i+2)=some c2:=p
   have j:mz s (i+3)=some c3:=M
   by_cases f:b=240
   ·subst f
    simp [hlen,t1,ux,some_ d,some_ a,some_ j,bA,a6,br]
   ·by_cases g:b=244
    ·subst g
     simp [hlen,t1,ux,some_ d,some_ a,some_ j,bA,a6,br]
    ·have v: ¬b<=240:=by omega
     have w:241<=b:=by omega
     have x:b<=243:=by omega
     have m: ¬244<=b:=by omega
     simp [h1,h2,o,y,L,f,g,l,C,q,D,N,O,P,Q,R,hlen,t1,ux,some_ d,some_ a,some_ j,v,w,x,m,bA,a6,br]
  ·have z:=none_ (lo:=128) (hi:=191) (show s.size<=i+3 by omega)
   simp only [h1,h2,o,y,L,l,C,q,D,N,O,P,Q,R,z,if_true,if_false,decide_true,decide_false,a8,cO,ck,cl,a1,bM,c0,true_and]
   by_cases f:b=240
   ·simp [f,hlen]
   ·by_cases g:b=244
    ·simp [g,hlen]
    ·simp [f,g,hlen]
 ·have v: ¬b<=240:=by omega
  have w: ¬b<=243:=by omega
  have x: ¬b<=244:=by omega
  simp [h1,h2,o,y,L,l,C,q,D,N,O,P,Q,R,v,w,x]
theorem OU (s:ByteArray) (a b:Nat):(s.extract a b).data.toList.map (·.toNat)=((s.data.toList.map (·.toNat)).drop a).take (b - a):=by
 have:(s.extract a b).data=s.data.extract a b:=by rw [ByteArray.data_extract]
 rw [this,Array.toList_extract,List.extract_eq_take_drop,dq,List.map_drop]
theorem W6 {s:ByteArray} (hs:s.size < 2 ^ 40) {n i:Nat} (hn:n < 2 ^ 40) (hi:i < s.size):kQ (.str s) [.int .i64 (n:Int),.int .i64 (i:Int)]=some (if sgn s i≠0 then .next [.int .i64 ((n+1:Nat):Int),.int .i64 ((i+sgn s i:Nat):Int)] else .done 0 [.int .i64 (n:Int),.int .i64 (i:Int)]):=by
 obtain ⟨b,hb⟩:=Ig hi
 have r:=(HO hb).2
 have hr:(uh b).1<=3:=by unfold uh;repeat (first | split | simp)
 rw [ab2 hb]
 unfold kQ
 have c:aa .sub (.int .i64 (s.size:Int)) (.int .i64 (i:Int))=some (.int .i64 ((s.size - i:Nat):Int)):=by
  rw [qe (by omega) (by omega)];congr 2;omega
 simp only [kV,ai,af,aA,aD,an,Int.ofNat_lt,ab,hi,decide_true,ah,acY,hb,a7,Tb,aY,c,gk,Int.ofNat_le,dr,b6]
 generalize hx:uh b=x at hr ⊢
 obtain ⟨rest,lo,e,is⟩:=x
 simp only at hr ⊢
 cases is with
 | false=>simp
 | true=>
   simp only [Bool.true_eq_false,if_false,ab,af,true_and]
   by_cases hle:s.size - i<=rest
   ·have: ¬rest < s.size - i:=by omega
    simp [hle,this]
   ·have f:rest < s.size - i:=by omega
    have k:aa .add (.int .i64 (i:Int)) (.int .i64 1)=some (.int .i64 ((i+1:Nat):Int)):=au (by omega)
    have m:aa .add (.int .i64 ((i+1:Nat):Int)) (.int .i64 (rest:Int))=some (.int .i64 ((i+1+rest:Nat):Int)):=wW (by omega)
    have o:aa .add (.int .i64 1) (.int .i64 (rest:Int))=some (.int .i64 ((1+rest:Nat):Int)):=wW (i:=1) (by omega)
    have p:aa .add (.int .i64 (i:Int)) (.int .i64 ((1+rest:Nat):Int))=some (.int .i64 ((i+(1+rest):Nat):Int)):=wW (by omega)
    have q:aa .add (.int .i64 (n:Int)) (.int .i64 1)=some (.int .i64 ((n+1:Nat):Int)):=au (by omega)
    have j: ∀(n i:Nat),i<=n->TR (.int .i64 (i:Int)) n=some i:= λn i h=>by
     simp only [TR];rw [if_pos (by omega)];simp
    have g:ea (.str s) (some (.int .i64 ((i+1:Nat):Int))) (some (.int .i64 ((i+1+rest:Nat):Int)))=some (.str (s.extract (i+1) (i+1+rest))):=by
     simp only [ea,lj,j s.size (i+1+rest) (by omega),j (i+1+rest) (i+1) (by omega),ab]
    generalize hl:((s.data.toList.map (·.toNat)).drop (i+1)).take rest=l
    have t:l.length=rest:=by
     rw [<-hl];simp only [List.length_take,List.length_drop,bR,sU];omega
    have d:Wq (.str (s.extract (i+1) (i+1+rest)))=some (.lst (l.map P7)):=by
     simp only [Wq]
     congr 2
     have h1:(s.extract (i+1) (i+1+rest)).data.toList.map (λb=>[IV.int .u8 (b.toNat:Int)])=((s.extract (i+1) (i+1+rest)).data.toList.map (·.toNat)).map P7:=by
      rw [List.map_map];rfl
     rw [h1,OU,show i+1+rest - (i+1)=rest by omega,hl]
    simp only [decide_eq_true_eq,hle,if_false,k,m,g,d,ab,ax,bR,W4 (show l.length < 100 by omega),decide_false,a1,f,true_and]
    by_cases a:ux l lo e=true
    ·simp only [a,if_true,aW,o,p,q,ab]
     rw [if_pos (by omega)]
     rfl
    ·simp only [a,if_false,adU,a1]
     simp
theorem Nb {s:ByteArray} (hs:s.size < 2 ^ 39): ∀(m n i:Nat),i<=s.size->n<=i->s.size - i < m-> ∃k:Nat,iter m (kQ (.str s)) [.int .i64 (n:Int),.int .i64 (i:Int)]=some (0,[.int .i64 (k:Int),.int .i64 (scan s i:Int)])
 | 0,n,i,_,_,h=>by omega
 | m+1,n,i,hi,hn,hm=>by
   by_cases h:i < s.size
   ·simp only [iter,W6 (show s.size < 2 ^ 40 by omega) (show n < 2 ^ 40 by omega) h,ab]
    rw [scan]
    by_cases h2:sgn s i=0
    ·have: ¬(i < s.size/\sgn s i≠0):= λhh=>hh.2 h2
     rw [dif_neg this]
     simp only [h2,ne_eq,not_true_eq_false,if_false]
     exact ⟨n,rfl⟩
    ·have hle:=afo (s:=s) (i:=i)
     rw [dif_pos ⟨h,h2⟩]
     simp only [ne_eq,h2,not_false_eq_true,if_true]
     exact Nb hs m (n+1) (i+sgn s i) (by omega) (by omega) (by omega)
   ·have hf:kQ (.str s) [.int .i64 (n:Int),.int .i64 (i:Int)]=some (.done 0 [.int .i64 (n:Int),.int .i64 (i:Int)]):=by
     unfold kQ
     simp only [kV,ai,af,an,Int.ofNat_lt,ab,h,decide_false,ag]
    rw [scan,dif_neg (λhh=>h hh.1)]
    exact ⟨n,by simp only [iter,hf,ab]⟩
theorem nz {s:ByteArray} (hs:s.size < 2 ^ 19):dU (.str s)=some [.bool (xO s)]:=by
 unfold dU sW xO
 obtain ⟨k,hk⟩:=Nb (s:=s) (by omega) rounds 0 0 (ds _) (eg _) (by have:rounds=1000000:=rfl;omega)
 rw [show (IV.int .i64 0)= .int .i64 ((0:Nat):Int) from rfl,hk]
 simp only [ab,aW,af,ai,xl,eh,a7,kV,db,fR]
 congr 3
 exact decide_eq_decide.2 (by omega)
end Go.AM
namespace Go.AM
def yL {α:Type} (R:α->α->Bool):List α->Bool
 | []=>true
 | [_]=>true
 | x::y::l=>R x y&&yL R (y::l)
theorem F5 {α:Type} {R:α->α->Bool}: ∀{l:List α},yL R l=true↔ ∀(i:Nat) (x y:α),l[i]? =some x->l[i+1]? =some y->R x y=true
 | []=>by simp [yL]
 | [x]=>by simp [yL]
 | x::y::l=>by
   simp only [yL,bm]
   rw [F5]
   constructor
   ·rintro ⟨h1,h2⟩ i a b c hb
    cases i with
    | zero=>cases c;cases hb;exact h1
    | succ i=>exact h2 i a b (by simpa using c) (by simpa using hb)
   ·intro h
    exact ⟨h 0 x y rfl rfl,λi a b c hb=>h (i+1) a b (by simpa using c) (by simpa using hb)⟩
theorem abM {α:Type} {R:α->α->Bool} {l:List α}:anyI (λi x=>decide (0 < i)&& !R (l.getD (i - 1) x) x) l 0= !yL R l:=by
 have key:anyI (λi x=>decide (0 < i)&& !R (l.getD (i - 1) x) x) l 0=false↔yL R l=true:= ?_
 ·cases h1:anyI (λi x=>decide (0 < i)&& !R (l.getD (i - 1) x) x) l 0<;>cases h2:yL R l<;>simp_all
 rw [KP,F5]
 constructor
 ·intro h i x y hx c
  have:=h (i+1) y c
  simp only [bf,Nat.lt_add_left_iff_pos,bs,decide_eq_false_iff_not,c8,b3] at this
  have a:l.getD i y=x:=by rw [ao,hx];rfl
  rw [a] at this
  rcases this with h1 | h1
  ·omega
  ·exact h1
 ·intro h i x hx
  simp only [bf,bs,decide_eq_false_iff_not,c8]
  cases i with
  | zero=>exact .inl (by omega)
  | succ i=>
    have b:=(ad.1 hx).1
    have hp:l[i]? =some l[i]:=al (by omega)
    have a:l.getD i x=l[i]:=by rw [ao,hp];rfl
    rw [b3,a]
    exact .inr (h i _ _ hp hx)
def befB (c r c' r':Int):Bool:=decide (c < c')||decide (c=c')&&decide (r < r')
def EU (a b:Mv):Bool:=befB a.c a.r b.c b.r
def RF (ch par:Int) (nm:ByteArray):Bool:=decide (1<=ch)&&decide (ch<=2147483647)&&decide (0<=par)&&decide (par<=2147483647)&&decide (nm.size<=64)&&xO nm
def oneV (m:Mv):Bool:=Qk m.c m.r&&RF m.ch m.par m.nm
def mayV (l:List Mv):Bool:=decide (l.length<=2000)&&(l.all oneV&&yL EU l)
theorem AR (ch par:Int) (nm:ByteArray) (x:IV):mm (.int .i64 ch) (.int .i64 par) (.str nm) x=some [.bool (RF ch par nm)]:=by
 unfold mm RF
 simp only [dm,gk,kV,ab,bw]
 by_cases h1:1<=ch
 ·by_cases h2:ch<=2147483647
  ·by_cases a:0<=par
   ·by_cases b:par<=2147483647
    ·by_cases c:nm.size<=64
     ·have:((nm.size:Int)<=64):=by omega
      simp [h1,h2,a,b,c,this,nz (show nm.size < 2 ^ 19 by omega)]
     ·have: ¬((nm.size:Int)<=64):=by omega
      simp [h1,h2,a,b,c,this]
    ·simp [h1,h2,a,b]
   ·simp [h1,h2,a]
  ·simp [h1,h2]
 ·simp [h1]
theorem EZ (m:Mv):oT (.int .i64 m.c) (.int .i64 m.r) (.int .i64 m.par) (.int .i64 m.ch) (.str m.nm) (.flt .f64 m.rk)=some [.int .i64 m.ch,.int .i64 m.par,.str m.nm,.flt .f64 m.rk]:=by
 unfold oT;simp
theorem s9 (m:Mv):jI (.int .i64 m.c) (.int .i64 m.r) (.int .i64 m.par) (.int .i64 m.ch) (.str m.nm) (.flt .f64 m.rk)=some [.bool (oneV m)]:=by
 unfold jI oneV Qk
 simp only [EZ,dm,gk,ab,af,ai,aA,aD,AR,bw]
 by_cases h1:1<=m.c
 ·by_cases h2:m.c<=4611686018427387903
  ·by_cases a:1<=m.r
   ·by_cases b:m.r<=255
    ·simp [h1,h2,a,b]
    ·simp [h1,h2,a,b]
   ·simp [h1,h2,a]
  ·simp [h1,h2]
 ·simp [h1]
theorem QK: ∀{l:List Mv} {v:List Mark},MayP v->(∀m∈l,1<=m.c/\m.c<=4611686018427387903/\1<=m.r/\m.r<=255)->MayP (l.foldl (λv m=>jY v m.c m.r) v)
 | [],v,hv,_=>hv
 | m::l,v,hv,h=>by
   have hm:=h m a5
   exact QK (l:=l) (hv.raise (c:=m.c) (r:=m.r) hm.2.2 hm.2.1) λx hx=>h x (aB _ hx)
theorem K8 (r:Int): ∀(l:List Mv) (v:List Mark),getM (l.foldl (λv m=>jY v m.c m.r) v) r=l.foldl (λn m=>if r=m.r then max n m.c else n) (getM v r)
 | [],v=>rfl
 | m::l,v=>by
   simp only [bO]
   rw [K8 r l,qO]
   congr 1
   split
   ·rename_i e;rw [e]
   ·rfl
def supV (r:Int) (l:List Mv) (n:Int):Int:=l.foldl (λn m=>if r=m.r then max n m.c else n) n
theorem abX {l:List Mv} {i:Nat} (hi:i<=l.length):ly 6 (bh l) none (some (.int .i64 (i:Int)))=some (bh (l.take i)):=by
 simp only [ly]
 rw [if_pos (by simp [eMv])]
 simp only [bR,KT hi,ab,cc,Nat.sub_zero]
 rw [<-dq]
theorem VP: ∀(v:List Mark) (n:Int),∀x∈v,x.c<=topM v n
 | [],n,x,h=>by simp at h
 | y::v,n,x,h=>by
   rcases bx.1 h with rfl | h
   ·have:=Km v (max n x.c)
    simp only [topM,bO] at this ⊢
    omega
   ·exact VP v (max n y.c) x h
theorem UJ {v:List Mark} {n:Int} (h0:0<=n) (r:Int):getM v r<=topM v n:=by
 rw [Tl]
 cases h:v.findIdx? (TC r) with
 | none=>have:=Km v n;simp only;omega
 | some i=>
   obtain ⟨x,hx,_⟩:=vZ h
   have a:v.getD i ⟨0,0⟩=x:=by rw [ao,hx];rfl
   simp only [a]
   exact VP v n x (b1 hx)
end Go.AM
