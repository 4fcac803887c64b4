/- Plain lemmas on the abstract machine's operations and loops. -/
import Derived.Test.YtgoenohknokcmaaGreatSh
open Option renaming bind_some->ab,map_some->bb,map_eq_some_iff->cc
open List renaming getElem?_eq_some_iff->ad,mem_cons_self->ao,getElem?_eq_getElem->aB,getD_eq_getElem?_getD->a1,mem_cons_of_mem->a2,pairwise_cons->a6,foldl_cons->a7,findIdx?_eq_some_iff_getElem->bf,getElem?_map->bm,mem_cons->bs,any_eq_true->bM,findIdx?_cons->bO,length_map->b0,mem_of_getElem?->b2,drop_eq_getElem_cons->b5,pairwise_iff_getElem->b6,all_cons->ca,drop_zero->cd,take_zero->ck,length_cons->dd,map_take->dq
open Bool renaming false_eq_true->a5,and_left_comm->a8,true_and->bd,and_eq_true->bx,and_assoc->bA,and_eq_false_iff->bB,and_comm->bC,false_or->bR,or_eq_false_iff->b3,not_eq_true'->b7,not_eq_true->cb,false_and->cl,and_false->cv,and_true->c0,or_false->c8,not_eq_false'->c9
open Nat renaming zero_add->br,add_sub_cancel->b4,reduceAdd->cO,zero_le->ds,le_refl->ec
open Go renaming IntKind->b1
set_option linter.unusedVariables false
set_option linter.unusedSimpArgs false
namespace Go.AM
@[simp] theorem af (x:IV) (l:List IV):nth (x::l) 0=x:=rfl
@[simp] theorem agU (x:IV) (l:List IV) (n:Nat):nth (x::l) (n+1)=nth l n:=by simp [nth]
@[simp] theorem ai (x y:IV) (l:List IV):nth (x::y::l) 1=y:=rfl
@[simp] theorem ay (x y z:IV) (l:List IV):nth (x::y::z::l) 2=z:=rfl
@[simp] theorem aH (x y z a:IV) (l:List IV):nth (x::y::z::a::l) 3=a:=rfl
@[simp] theorem bW (x y z a b:IV) (l:List IV):nth (x::y::z::a::b::l) 4=b:=rfl
@[simp] theorem bV (x y z a b c:IV) (l:List IV):nth (x::y::z::a::b::c::l) 5=c:=rfl
@[simp] theorem sO (x y z a b c d:IV) (l:List IV):nth (x::y::z::a::b::c::d::l) 6=d:=rfl
@[simp] theorem Zb (x y z a b c d e:IV) (l:List IV):nth (x::y::z::a::b::c::d::e::l) 7=e:=rfl
@[simp] theorem ah {R:Type} (t e:Unit->Option R):ae (.bool true) t e=t ():=rfl
@[simp] theorem ag {R:Type} (t e:Unit->Option R):ae (.bool false) t e=e ():=rfl
theorem bj {R:Type} (p:Prop) [Decidable p] (t e:Unit->Option R):ae (.bool (decide p)) t e=if p then t () else e ():=by
 by_cases h:p<;>simp [h,ae]
theorem db {R:Type} (b:Bool) (t e:Unit->Option R):ae (.bool b) t e=if b=true then t () else e ():=by cases b<;>rfl
@[simp] theorem al (k:b1) (a b:Int):aa .lss (.int k a) (.int k b)=some (.bool (decide (a < b))):=by simp [aa,bZ]
@[simp] theorem e9 (k:b1) (a b:Int):aa .leq (.int k a) (.int k b)=some (.bool (decide (a<=b))):=by simp [aa,bZ]
@[simp] theorem aV (k:b1) (a b:Int):aa .gtr (.int k a) (.int k b)=some (.bool (decide (b < a))):=by simp [aa,bZ]
@[simp] theorem dk (k:b1) (a b:Int):aa .geq (.int k a) (.int k b)=some (.bool (decide (b<=a))):=by simp [aa,bZ]
@[simp] theorem dc (k:b1) (a b:Int):aa .eql (.int k a) (.int k b)=some (.bool (decide (a=b))):=by
  simp only [aa,bZ,if_true];congr 2
@[simp] theorem dv (k:b1) (a b:Int):aa .neq (.int k a) (.int k b)=some (.bool (decide (a≠b))):=by
  simp only [aa,bZ,if_true,bne]
  congr 2
  by_cases h:a=b<;>simp [h]
@[simp] theorem YW (a b:Bool):Qi .eql (.bool a) (.bool b)=some (.bool (a==b)):=rfl
@[simp] theorem afx (a b:Bool):Qi .neq (.bool a) (.bool b)=some (.bool !(a==b)):=rfl
@[simp] theorem aZ (b:Bool):ly .not (.bool b)=some (.bool !b):=rfl
theorem wrap64 {a:Int} (h1: -(2 ^ 63)<=a) (h2:a < 2 ^ 63):IntKind.i64.wrap a=a:=by
 rw [IntKind.wrap_i64];omega
theorem wQ {a b:Int} (h1: -(2 ^ 63)<=a+b) (h2:a+b < 2 ^ 63):aa .add (.int .i64 a) (.int .i64 b)=some (.int .i64 (a+b)):=by
 simp only [aa,bZ,if_true,wrap64 h1 h2]
theorem nx {a b:Int} (h1: -(2 ^ 63)<=a - b) (h2:a - b < 2 ^ 63):aa .sub (.int .i64 a) (.int .i64 b)=some (.int .i64 (a - b)):=by
 simp only [aa,bZ,if_true,wrap64 h1 h2]
theorem au {i:Nat} (h:i < 2 ^ 62):aa .add (.int .i64 (i:Int)) (.int .i64 1)=some (.int .i64 ((i+1:Nat):Int)):=by
 rw [wQ (by omega) (by omega)];rfl
theorem qi {i:Nat} (h:i < 2 ^ 62) (h0:0 < i):aa .sub (.int .i64 (i:Int)) (.int .i64 1)=some (.int .i64 ((i - 1:Nat):Int)):=by
 rw [nx (by omega) (by omega)]
 congr 2;omega
@[simp] theorem adg (k:b1) (a b:Int):imax (.int k a) (.int k b)=some (.int k (max a b)):=by
  simp only [imax,if_true]
  congr 2
  simp only [Int.max_def]
  split<;>split<;>omega
@[simp] theorem adG (k:b1) (a b:Int):Xo (.int k a) (.int k b)=some (.int k (min a b)):=by
  simp only [Xo,if_true]
  congr 2
  simp only [Int.min_def]
  split<;>split<;>omega
@[simp] theorem aw (es:List (List IV)):aC (.lst es)=some (.int .i64 es.length):=rfl
@[simp] theorem sT (s:ByteArray):gS (.str s)=some (.int .i64 s.size):=rfl
@[simp] theorem cC (es:List (List IV)):cr (.lst es)=es.length:=rfl
@[simp] theorem ZQ (es:List (List IV)) (l h:Nat):DW (.lst es) l h= .lst ((es.drop l).take (h - l)):=rfl
@[simp] theorem dm:av []=some []:=rfl
@[simp] theorem dQ (b:Bool) (l:List IV):av (.bool b::l)=(av l).map (.bool b:: ·):=by
  simp only [av,ca,IV.scalar,bd];split<;>rfl
@[simp] theorem wo (k:b1) (n:Int) (l:List IV):av (.int k n::l)=(av l).map (.int k n:: ·):=by
  simp only [av,ca,IV.scalar,bd];split<;>rfl
@[simp] theorem aai (k:FloatKind) (n:Nat) (l:List IV):av (.flt k n::l)=(av l).map (.flt k n:: ·):=by
  simp only [av,ca,IV.scalar,bd];split<;>rfl
@[simp] theorem agP (s:ByteArray) (l:List IV):av (.str s::l)=(av l).map (.str s:: ·):=by
  simp only [av,ca,IV.scalar,bd];split<;>rfl
@[simp] theorem aK {R:Type} (x:Option R) (l:List (Option R)):en 0 (x::l)=x:=rfl
@[simp] theorem adk {R:Type} (x y:Option R) (l:List (Option R)):en 1 (x::y::l)=y:=rfl
@[simp] theorem ahw {R:Type} (x y z:Option R) (l:List (Option R)):en 2 (x::y::z::l)=z:=rfl
theorem ee {α:Type} {enc:α->List IV} {l:List α} {i:Nat} {x:α} {sz:Nat} (h:l[i]? =some x) (hs:(enc x).length=sz) (hp:0 < sz):aP (.lst (l.map enc)) (.int .i64 (i:Int)) sz=some i:=by
 have hi:i < l.length:=(ad.1 h).1
 simp only [aP]
 rw [if_pos]
 ·simp
 ·refine ⟨by omega,by simp;omega,?_,hp⟩
  simp only [Int.toNat_natCast,a1,bm,h,bb,Option.getD_some,hs]
theorem qM {α:Type} {enc:α->List IV} {l:List α} {i:Nat} {x:α} {sz:Nat} (h:l[i]? =some x) (hs:(enc x).length=sz):ff (.lst (l.map enc)) i 0 sz=some (enc x):=by
 simp only [ff,bm,h,bb,ab,br,cd]
 rw [if_pos (by omega),<-hs,List.take_length]
theorem cg {α:Type} {enc:α->List IV} {l:List α} {i j:Nat} {x:α} (h:l[i]? =some x):dV (.lst (l.map enc)) i j=(enc x)[j]? :=by
 simp only [dV,bm,h,bb,ab]
theorem fi {n i:Nat} {k:b1} (h:i < n):cx n (.int k (i:Int))=some i:=by
 simp only [cx]
 rw [if_pos (by omega)];simp
def I7 {α a:Type} (step:Nat->a->α->a ⊕ (Nat×List IV)) (out:a->Nat×List IV):List α->Nat->a->Nat×List IV
 | [],_,s=>out s
 | x::xs,i,s=>match step i s x with | .inl b=>I7 step out xs (i+1) b | .inr p=>p
theorem Qe {α b:Type} {f:List IV->Option SR} {enc:Nat->b->List IV} {step:Nat->b->α->b ⊕ (Nat×List IV)} {out:b->Nat×List IV} (I:Nat->b->Prop) (l:List α)
  (hs: ∀i s x,l[i]? =some x->I i s->(∀a,step i s x= .inl a->I (i+1) a)/\f (enc i s)=some (match step i s x with | .inl a=> .next (enc (i+1) a) | .inr p=> .done p.1 p.2))
  (he: ∀s,I l.length s->f (enc l.length s)=some (.done (out s).1 (out s).2)):
  ∀(n k:Nat) (s:b),k<=l.length->l.length - k < n->I k s->iter n f (enc k s)=some (I7 step out (l.drop k) k s)
 | 0,k,s,_,h,_=>by omega
 | n+1,k,s,hk,hn,e=>by
   by_cases h:k=l.length
   ·subst h
    simp only [iter,he s e,ab,List.drop_length,I7]
   ·have c:k < l.length:=by omega
    have g:l[k]? =some l[k]:=aB c
    obtain ⟨h1,h2⟩:=hs k s l[k] g e
    rw [b5 c]
    simp only [iter,h2,ab,I7]
    cases d:step k s l[k] with
    | inl a=>exact Qe I l hs he n (k+1) a (by omega) (by omega) (h1 a d)
    | inr p=>rfl
theorem Fz {α a:Type} {f:List IV->Option SR} {vs0:List IV} (enc:Nat->a->List IV) (step:Nat->a->α->a ⊕ (Nat×List IV)) (out:a->Nat×List IV) (I:Nat->a->Prop) (l:List α) (s:a) (h0:vs0=enc 0 s) (hl:l.length < rounds) (c:I 0 s)
  (hs: ∀i s x,l[i]? =some x->I i s->(∀b,step i s x= .inl b->I (i+1) b)/\f (enc i s)=some (match step i s x with | .inl b=> .next (enc (i+1) b) | .inr p=> .done p.1 p.2))
  (he: ∀s,I l.length s->f (enc l.length s)=some (.done (out s).1 (out s).2)):iter rounds f vs0=some (I7 step out l 0 s):=by
 subst h0
 have:=Qe I l hs he rounds 0 s (ds _) (by omega) c
 simpa using this
theorem lI {α:Type} {f:List IV->Option SR} {vs0:List IV} (enc:Nat->List IV) (p:α->Bool) (c:Nat) (b:Nat->List IV) (d:Nat) (a:List IV) (l:List α) (h0:vs0=enc 0) (hl:l.length < rounds)
  (hs: ∀i x,l[i]? =some x->f (enc i)=some (if p x=true then .done c (b i) else .next (enc (i+1)))) (he:f (enc l.length)=some (.done d a)):
  iter rounds f vs0=some (match l.findIdx? p with | some i=>(c,b i) | none=>(d,a)):=by
 rw [Fz (vs0:=vs0) (λi (_:Unit)=>enc i) (λi _ x=>if p x=true then .inr (c,b i) else .inl ()) (λ_=>(d,a)) (λ_ _=>True) l () h0 hl trivial (λi s x e _=>⟨λ_ _=>trivial,by rw [hs i x e];split<;>rfl⟩) (λ_ _=>he)]
 have key: ∀(l:List α) (k:Nat),I7 (λi (_:Unit) x=>if p x=true then .inr (c,b i) else .inl ()) (λ_=>(d,a)) l k ()=match l.findIdx? p with | some i=>(c,b (k+i)) | none=>(d,a):=by
  intro l
  induction l with
  | nil=>intro k;rfl
  | cons x l ih=>
    intro k
    simp only [I7,bO]
    by_cases h:p x=true
    ·simp [h]
    ·simp only [h,if_false,a5]
     rw [ih]
     cases l.findIdx? p with
     | none=>rfl
     | some i=>simp;congr 1;omega
 rw [key l 0]
 cases l.findIdx? p<;>simp
def anyI {α:Type} (bad:Nat->α->Bool):List α->Nat->Bool
 | [],_=>false
 | x::l,k=>bad k x||anyI bad l (k+1)
theorem Qd {α:Type} {bad:Nat->α->Bool}: ∀{l:List α} {k:Nat},anyI bad l k=true↔ ∃i x,l[i]? =some x/\bad (k+i) x=true
 | [],k=>by simp [anyI]
 | y::l,k=>by
   simp only [anyI,Bool.or_eq_true]
   rw [Qd]
   constructor
   ·rintro (h | ⟨i,x,h1,h2⟩)
    ·exact ⟨0,y,rfl,h⟩
    ·exact ⟨i+1,x,by simpa using h1,by rw [<-h2];congr 1;omega⟩
   ·rintro ⟨i,x,h1,h2⟩
    cases i with
    | zero=>cases h1;exact .inl h2
    | succ i=>exact .inr ⟨i,x,by simpa using h1,by rw [<-h2];congr 1;omega⟩
theorem KA {α:Type} {bad:Nat->α->Bool} {l:List α} {k:Nat}:anyI bad l k=false↔ ∀i x,l[i]? =some x->bad (k+i) x=false:=by
 rw [<-cb,Qd]
 constructor
 ·intro h i x a
  rw [<-cb]
  exact λhb=>h ⟨i,x,a,hb⟩
 ·rintro h ⟨i,x,a,hb⟩
  rw [h i x a] at hb;cases hb
theorem D7 {α:Type} {f:List IV->Option SR} {vs0:List IV} (enc:Nat->List IV) (bad:Nat->α->Bool) (c:Nat) (b:List IV) (d:Nat) (a:List IV) (l:List α) (h0:vs0=enc 0) (hl:l.length < rounds)
  (hs: ∀i x,l[i]? =some x->f (enc i)=some (if bad i x=true then .done c b else .next (enc (i+1)))) (he:f (enc l.length)=some (.done d a)):
  iter rounds f vs0=some (if anyI bad l 0=true then (c,b) else (d,a)):=by
 rw [Fz (vs0:=vs0) (λi (_:Unit)=>enc i) (λi _ x=>if bad i x=true then .inr (c,b) else .inl ()) (λ_=>(d,a)) (λ_ _=>True) l () h0 hl trivial (λi s x e _=>⟨λ_ _=>trivial,by rw [hs i x e];split<;>rfl⟩) (λ_ _=>he)]
 have key: ∀(l:List α) (k:Nat),I7 (λi (_:Unit) x=>if bad i x=true then .inr (c,b) else .inl ()) (λ_=>(d,a)) l k ()=if anyI bad l k=true then (c,b) else (d,a):=by
  intro l
  induction l with
  | nil=>intro k;rfl
  | cons x l ih=>
    intro k
    simp only [I7,anyI]
    by_cases h:bad k x=true
    ·simp [h]
    ·simp only [h,if_false,a5,bR]
     exact ih (k+1)
 rw [key l 0]
theorem kE {α a:Type} {f:List IV->Option SR} {vs0:List IV} (enc:Nat->a->List IV) (g:a->α->a) (b:Nat) (out:a->List IV) (I:Nat->a->Prop) (l:List α) (s:a) (h0:vs0=enc 0 s) (hl:l.length < rounds) (c:I 0 s)
  (hs: ∀i s x,l[i]? =some x->I i s->I (i+1) (g s x)/\f (enc i s)=some (.next (enc (i+1) (g s x)))) (he: ∀s,I l.length s->f (enc l.length s)=some (.done b (out s))):
  iter rounds f vs0=some (b,out (l.foldl g s)):=by
 rw [Fz (vs0:=vs0) enc (λ_ s x=> .inl (g s x)) (λs=>(b,out s)) I l s h0 hl c (λi s x d c=>⟨λh e=>by cases e;exact (hs i s x d c).1,(hs i s x d c).2⟩) he]
 congr 1
 have key: ∀(l:List α) (k:Nat) (s:a),I7 (λ_ s x=> .inl (g s x)) (λs=>(b,out s)) l k s=(b,out (l.foldl g s)):=by
  intro l
  induction l with
  | nil=>intro k s;rfl
  | cons x l ih=>intro k s;exact ih (k+1) (g s x)
 exact key l 0 s
end Go.AM
namespace Go.AM
theorem aJ:rounds=1000000:=rfl
structure Mark where
 r:Int
 c:Int
 deriving DecidableEq
def KQ (m:Mark):List IV:=[.int .i64 m.r,.int .i64 m.c]
abbrev aL (l:List Mark):IV:= .lst (l.map KQ)
theorem xJ {l:List Mark} {i:Nat} {x:Mark} (h:l[i]? =some x):i < l.length/\aP (aL l) (.int .i64 (i:Int)) 2=some i/\ff (aL l) i 0 2=some [.int .i64 x.r,.int .i64 x.c]/\dV (aL l) i 0=some (.int .i64 x.r)/\dV (aL l) i 1=some (.int .i64 x.c)/\cx l.length (.int .i64 (i:Int))=some i:=
 ⟨(ad.1 h).1,ee h rfl (by decide),qM h rfl,cg h,cg h,fi (ad.1 h).1⟩
theorem Z6 {l:List Mark} {i:Nat} {x:Mark} (h:l[i]? =some x) (c:Int):rI (aL l) i 1 [.int .i64 c]=some (aL (l.set i ⟨x.r,c⟩)):=by
 simp only [rI,bm,h,bb,ab,KQ,dd,List.length_nil]
 rw [if_pos (by decide)]
 simp only [aL,List.map_set]
 rfl
def Y4 (x:Int):List IV:=[.int .i64 x]
abbrev bQ (l:List Int):IV:= .lst (l.map Y4)
theorem pH {l:List Int} {i:Nat} {x:Int} (h:l[i]? =some x):i < l.length/\aP (bQ l) (.int .i64 (i:Int)) 1=some i/\ff (bQ l) i 0 1=some [.int .i64 x]/\dV (bQ l) i 0=some (.int .i64 x)/\cx l.length (.int .i64 (i:Int))=some i:=
 ⟨(ad.1 h).1,ee h rfl (by decide),qM h rfl,cg h,fi (ad.1 h).1⟩
def Qx {α:Type} (p:α->Bool) (l:List α):Int:=match l.findIdx? p with | some i=>(i:Int) | none=> -1
theorem Ao {α:Type} {p:α->Bool} {l:List α} (h:l.findIdx? p=none):Qx p l= -1:=by simp [Qx,h]
theorem zO {α:Type} {p:α->Bool} {l:List α} {i:Nat} (h:l.findIdx? p=some i):Qx p l=(i:Int):=by simp [Qx,h]
theorem Q3 {α:Type} {p:α->Bool} {l:List α}:(0<=Qx p l)↔l.any p=true:=by
 unfold Qx
 cases h:l.findIdx? p with
 | none=>
   simp only [List.findIdx?_eq_none_iff] at h
   constructor
   ·intro h0;simp at h0
   ·intro h0
    obtain ⟨x,a,hp⟩:=bM.1 h0
    rw [h x a] at hp;cases hp
 | some i=>
   simp only [Int.natCast_nonneg,true_iff]
   obtain ⟨hi,hp,_⟩:=bf.1 h
   exact bM.2 ⟨l[i],List.getElem_mem hi,hp⟩
theorem vj {α:Type} {p:α->Bool} {l:List α} {i:Nat} (h:l.findIdx? p=some i): ∃x,l[i]? =some x/\p x=true:=by
 obtain ⟨hi,hp,_⟩:=bf.1 h
 exact ⟨l[i],aB hi,hp⟩
theorem ua {C:IV->List Nat->List (List IV)->Option (List IV)} {b:IV} {p:Mark->Bool} {l:List Mark} (hl:l.length < 2 ^ 16) (c: ∀x∈l,C b [1] [KQ x]=some [.bool (p x)]):
  aW C (aL l) b=some [.int .i64 (Qx p l)]:=by
 unfold aW
 simp only [aw,ab]
 rw [lI (vs0:=[IV.int .i64 0]) (λi=>[IV.int .i64 (i:Int)]) p 1 (λi=>[IV.int .i64 (i:Int)]) 0 [] l rfl (by have:=aJ;omega)]
 ·unfold Qx
  cases l.findIdx? p<;>simp
 ·intro i x a
  have hi:i < l.length:=(ad.1 a).1
  have hc:=c x (b2 a)
  unfold iv
  unfold KQ at hc
  simp [xJ a,hc,db,au (show i < 2 ^ 62 by omega)]
  split<;>rfl
 ·unfold iv
  simp
def getM:List Mark->Int->Int
 | [],_=>0
 | x::l,r=>if x.r=r then x.c else getM l r
def Tt (r:Int) (x:Mark):Bool:=decide (x.r=r)
def UE (v:List Mark) (r:Int):Bool:=v.any (Tt r)
def Dz:List Mark->Int->Int->List Mark
 | [],_,_=>[]
 | x::l,c,r=>if x.r=r then ⟨x.r,max x.c c⟩::l else x::Dz l c r
def Ff:List Mark->Int->Int->List Mark
 | [],c,r=>[⟨r,c⟩]
 | x::l,c,r=>if r < x.r then ⟨r,c⟩::x::l else x::Ff l c r
def kM (v:List Mark) (c r:Int):List Mark:=if UE v r=true then Dz v c r else if c<=0 then v else Ff v c r
def Ba (a b:List Mark):Bool:= !a.any λx=>decide (getM b x.r < getM a x.r)
def XP (v:List Mark):Bool:= !anyI (λi x=>decide (x.r < 1)||decide (255 < x.r)||decide (x.c < 1)||decide (4611686018427387903 < x.c)||(decide (0 < i)&&decide (x.r<=(v.getD (i - 1) x).r))) v 0
theorem RO {r:Int}: ∀(l:List Mark),getM l r=match l.findIdx? (Tt r) with | some i=>(l.getD i ⟨0,0⟩).c | none=>0
 | []=>rfl
 | x::l=>by
   simp only [getM,bO,Tt,decide_eq_true_eq]
   by_cases h:x.r=r
   ·simp [h]
   ·simp only [h,if_false]
    rw [RO l]
    cases l.findIdx? (Tt r)<;>simp
theorem YF {c r:Int}: ∀(l:List Mark) (i:Nat) (x:Mark),l.findIdx? (Tt r)=some i->l[i]? =some x->Dz l c r=l.set i ⟨x.r,max x.c c⟩
 | [],i,x,h,_=>by simp at h
 | y::l,i,x,h,b=>by
   simp only [bO,Tt,decide_eq_true_eq] at h
   by_cases a:y.r=r
   ·simp only [a,if_true,Option.some.injEq] at h
    subst h
    cases b
    simp [Dz,a]
   ·simp only [a,if_false] at h
    obtain ⟨j,hj,rfl⟩:=cc.1 h
    simp only [Dz,a,if_false,List.set_cons_succ]
    rw [YF l j x hj (by simpa using b)]
theorem Yd {c r:Int}: ∀(l:List Mark),Ff l c r=l.take ((l.findIdx? λx=>decide (r < x.r)).getD l.length)++[⟨r,c⟩]++l.drop ((l.findIdx? λx=>decide (r < x.r)).getD l.length)
 | []=>rfl
 | x::l=>by
   simp only [Ff,bO,decide_eq_true_eq]
   by_cases h:r < x.r
   ·simp [h]
   ·simp only [h,if_false]
    rw [Yd l]
    cases l.findIdx? (λx=>decide (r < x.r))<;>simp
theorem BB {l:List Mark} (hl:l.length < 2 ^ 16) (r:Int):ky (aL l) (.int .i64 r)=some [.int .i64 (Qx (Tt r) l),.bool (decide (0<=Qx (Tt r) l))]:=by
 unfold ky
 rw [ua hl (p:=Tt r)]
 ·simp
 ·intro x _
  show j9 (.int .i64 x.r) (.int .i64 x.c) (.ptr [.int .i64 r] 0)=_
  unfold j9
  simp [iM,Tt]
theorem xM {l:List Mark} (hl:l.length < 2 ^ 16) (r:Int):lZ (aL l) (.int .i64 r)=some [.int .i64 (getM l r)]:=by
 unfold lZ
 rw [BB hl,RO]
 cases h:l.findIdx? (Tt r) with
 | none=>simp [Ao h]
 | some i=>
   obtain ⟨x,b,_⟩:=vj h
   have a:l.getD i ⟨0,0⟩=x:=by rw [a1,b];rfl
   simp only [a]
   simp [zO h,xJ b,bj]
theorem vz {l:List Int} (hl:l.length < 2 ^ 16) (n:Int):fP (.int .i64 n) (bQ l)=some [.int .i64 (l.foldl max n)]:=by
 unfold fP
 simp only [aw,ab]
 rw [kE (vs0:=[IV.int .i64 n,.int .i64 0]) (λi (n:Int)=>[IV.int .i64 n,.int .i64 (i:Int)]) (λn x=>max n x) 0 (λn=>[.int .i64 n]) (λ_ _=>True) l n rfl (by have:=aJ;omega) trivial]
 ·simp
 ·intro i s x a _
  have hi:i < l.length:=(ad.1 a).1
  refine ⟨trivial,?_⟩
  unfold oP
  simp [pH a,au (show i < 2 ^ 62 by omega)]
 ·intro s _
  unfold oP
  simp
theorem II {l:List Mark} (hl:l.length < 2 ^ 16) {i:Nat} (hi:i<=l.length) (m:Mark):de (aL l) (.int .i64 (i:Int)) (.lst [[.int .i64 m.r,.int .i64 m.c]])=some [aL (l.take i++[m]++l.drop i)]:=by
 unfold de
 simp only [sK]
 rw [if_pos]
 ·simp [KQ]
 ·refine ⟨by omega,by simp;omega,by simp;omega,rfl⟩
theorem Xc {l:List Mark} (hl:l.length < 2 ^ 16):eY (aL l)=some [aL l]:=by
 unfold eY
 simp only [tC]
 rw [if_pos]
 refine ⟨by simp;omega,by simp [KQ,IV.scalar]⟩
theorem A7 {l:List Mark} (hl:l.length < 2 ^ 16) (c r:Int):kB (aL l) (.int .i64 c) (.int .i64 r)=some [aL (kM l c r)]:=by
 unfold kB kM UE
 rw [Xc hl]
 simp only [ab]
 rw [BB hl]
 simp only [ab,ai,af,bj,Q3]
 by_cases h:l.any (Tt r)=true
 ·simp only [h,if_true]
  obtain ⟨i,hi⟩: ∃i,l.findIdx? (Tt r)=some i:=by
   cases hh:l.findIdx? (Tt r) with
   | some i=>exact ⟨i,rfl⟩
   | none=>have:=Q3.2 h;rw [Ao hh] at this;omega
  obtain ⟨x,a,_⟩:=vj hi
  rw [zO hi,YF l i x hi a]
  have b:=vz (l:=[c]) (by simp) x.c
  simp only [bQ,Y4,List.map_cons,List.map_nil,a7,List.foldl_nil] at b
  simp [xJ a,b,Z6 a]
 ·simp only [h,if_false,a5]
  simp only [e9,ab,bj]
  split
  ·rfl
  ·rw [ua hl (p:= λx=>decide (r < x.r))]
   ·rw [Yd]
    cases hh:l.findIdx? (λx=>decide (r < x.r)) with
    | none=>
      have:=II hl (ec _) ⟨r,c⟩
      simp only at this
      simp [Ao hh,this]
    | some i=>
      obtain ⟨hi,_⟩:=bf.1 hh
      have:=II hl (Nat.le_of_lt hi) ⟨r,c⟩
      simp only at this
      simp [zO hh,this,bj,show ¬((i:Int) < 0) by omega]
   ·intro x _
    show jU (.int .i64 x.r) (.int .i64 x.c) (.ptr [.int .i64 c,.int .i64 r] 0)=_
    unfold jU
    simp [iM,gx]
end Go.AM
namespace Go.AM
theorem Ib {c r:Int}: ∀(l:List Mark),(Dz l c r).length=l.length
 | []=>rfl
 | x::l=>by simp only [Dz];split<;>simp [Ib l]
theorem H9 {c r:Int}: ∀(l:List Mark),(Ff l c r).length=l.length+1
 | []=>rfl
 | x::l=>by simp only [Ff];split<;>simp [H9 l]
theorem vL {c r:Int} (l:List Mark):(kM l c r).length<=l.length+1:=by
 unfold kM
 split
 ·rw [Ib];omega
 ·split
  ·omega
  ·rw [H9];omega
structure Mv where
 c:Int
 r:Int
 par:Int
 ch:Int
 nm:ByteArray
 rk:Nat
 deriving DecidableEq
def eMv (m:Mv):List IV:=[.int .i64 m.c,.int .i64 m.r,.int .i64 m.par,.int .i64 m.ch,.str m.nm,.flt .f64 m.rk]
abbrev aI (l:List Mv):IV:= .lst (l.map eMv)
theorem ace {α:Type} {enc:α->List IV} {l:List α} {i n:Nat} {x:α} (h:l[i]? =some x) (hs:n<=(enc x).length):ff (.lst (l.map enc)) i 0 n=some ((enc x).take n):=by
 simp only [ff,bm,h,bb,ab,br,cd]
 rw [if_pos (by omega)]
theorem zH {l:List Mv} {i:Nat} {x:Mv} (h:l[i]? =some x):i < l.length/\aP (aI l) (.int .i64 (i:Int)) 6=some i/\ff (aI l) i 0 6=some [.int .i64 x.c,.int .i64 x.r,.int .i64 x.par,.int .i64 x.ch,.str x.nm,.flt .f64 x.rk]/\ff (aI l) i 0 2=some [.int .i64 x.c,.int .i64 x.r]/\
  dV (aI l) i 0=some (.int .i64 x.c)/\dV (aI l) i 1=some (.int .i64 x.r)/\dV (aI l) i 2=some (.int .i64 x.par)/\dV (aI l) i 3=some (.int .i64 x.ch)/\dV (aI l) i 4=some (.str x.nm)/\dV (aI l) i 5=some (.flt .f64 x.rk)/\cx l.length (.int .i64 (i:Int))=some i:=
 ⟨(ad.1 h).1,ee h rfl (by decide),qM h rfl,ace h (by simp [eMv]),cg h,cg h,cg h,cg h,cg h,cg h,fi (ad.1 h).1⟩
def ofM (l:List Mv):List Mark:=l.foldl (λv m=>kM v m.c m.r) []
theorem Gd: ∀(l:List Mv) (a:List Mark),(l.foldl (λv m=>kM v m.c m.r) a).length<=a.length+l.length
 | [],a=>by simp
 | x::b,a=>by
   have h1:=Gd b (kM a x.c x.r)
   have h2:=vL (c:=x.c) (r:=x.r) a
   simp only [a7,dd] at h1 ⊢
   omega
theorem VT {l:List Mv} (hl:l.length < 2 ^ 15):uh (aI l)=some [aL (ofM l)]:=by
 unfold uh ofM
 simp only [aw,ab]
 rw [kE (vs0:=[.lst [],.int .i64 0]) (λi (v:List Mark)=>[aL v,.int .i64 (i:Int)]) (λv x=>kM v x.c x.r) 0 (λv=>[aL v]) (λi v=>v.length<=i) l [] rfl (by have:=aJ;omega) (by simp)]
 ·simp
 ·intro i s x a b
  have hi:i < l.length:=(ad.1 a).1
  have:=vL (c:=x.c) (r:=x.r) s
  refine ⟨by omega,?_⟩
  unfold zF
  simp [zH a,A7 (show s.length < 2 ^ 16 by omega),au (show i < 2 ^ 62 by omega)]
 ·intro s _
  unfold zF
  simp
theorem KZ {a b:List Mark} (d:a.length < 2 ^ 16) (hb:b.length < 2 ^ 16):nk (aL a) (aL b)=some [.bool (Ba a b)]:=by
 unfold nk cD
 rw [ua d (p:= λx=>decide (getM b x.r < getM a x.r))]
 ·simp only [ab,af,dk,Q3,dQ,dm,bb,aZ]
  congr 3
  unfold Ba
  simp only [Bool.decide_eq_true]
 ·intro x _
  show kn (.int .i64 x.r) (.int .i64 x.c) (.ptr [aL a] 0) (.ptr [aL b] 0)=_
  unfold kn
  simp [iM,xM d,xM hb]
theorem xC {v:List Mark} (hv:v.length < 2 ^ 16):dF (aL v)=some [.bool (XP v)]:=by
 unfold dF XP
 simp only [aw,ab]
 rw [D7 (vs0:=[.int .i64 0]) (λi=>[IV.int .i64 (i:Int)]) (λi x=>decide (x.r < 1)||decide (255 < x.r)||decide (x.c < 1)||decide (4611686018427387903 < x.c)||(decide (0 < i)&&decide (x.r<=(v.getD (i - 1) x).r))) 1 [.bool false] 0 [] v rfl (by have:=aJ;omega)]
 ·split<;>simp_all
 ·intro i x e
  have hi:i < v.length:=(ad.1 e).1
  unfold yw
  simp only [af,ai,al,aV,b0,Int.ofNat_lt,xJ e,decide_true,ah,ab,bj,au (show i < 2 ^ 62 by omega)]
  by_cases h1:x.r < 1
  ·simp [h1]
  by_cases h2:255 < x.r
  ·simp [h1,h2]
  by_cases a:x.c < 1
  ·simp [h1,h2,a]
  by_cases b:4611686018427387903 < x.c
  ·simp [h1,h2,a,b]
  by_cases d:0 < i
  ·have hp:v[i - 1]? =some (v.getD (i - 1) x):=by
    rw [a1,aB (by omega)];rfl
   simp only [h1,h2,a,b,if_false,show (0:Int) < (i:Int) by omega,d,if_true,qi (show i < 2 ^ 62 by omega) d,ab,xJ hp,dk,af,bj,decide_false,bR,decide_true,bd,decide_eq_true_eq]
   split<;>rfl
  ·simp [h1,h2,a,b,d,show ¬((0:Int) < (i:Int)) by omega]
 ·unfold yw
  simp
theorem abN {l:List Int} (hl:l.length < 2 ^ 20) (n:Int):bX 1 8 (bQ l) (.lst [[.int .i64 n]])=some (bQ (l++[n])):=by
 simp only [bX]
 rw [if_pos]
 ·simp [Y4]
 ·refine ⟨by simp;omega,rfl⟩
def GY (v:List Mark) (n:Int):Int:=v.foldl (λn x=>max n x.c) n
def X7 (v:List Mark) (n r:Int):List IV:=if 4611686018427387903<=GY v (max 0 n)\/r < 1\/255 < r then [.int .i64 0,.int .i64 0,.bool false] else [.int .i64 (GY v (max 0 n)+1),.int .i64 r,.bool true]
theorem Kq (v:List Mark): ∀n,n<=GY v n:=by
 unfold GY
 induction v with
 | nil=>intro n;exact Int.le_refl _
 | cons x v ih=>intro n;exact Int.le_trans (by omega) (ih (max n x.c))
theorem Da {v:List Mark} (hv:v.length < 2 ^ 15) (n q r:Int):pE (aL v) (.int .i64 n) (.int .i64 q) (.int .i64 r)=some (X7 v n r):=by
 unfold pE
 simp only [aw,ab]
 rw [kE (vs0:=[.lst [[.int .i64 n]],.int .i64 0]) (λi (l:List Int)=>[bQ l,.int .i64 (i:Int)]) (λl x=>l++[x.c]) 0 (λl=>[bQ l]) (λi l=>l.length=i+1) v [n] rfl (by have:=aJ;omega) rfl]
 ·have a: ∀(v:List Mark) (l:List Int),v.foldl (λl x=>l++[x.c]) l=l++v.map (·.c):=by
   intro v
   induction v with
   | nil=>intro l;simp
   | cons x v ih=>intro l;simp [ih]
  rw [a]
  simp only [ab,aK,af]
  rw [vz (by simp;omega)]
  have f:([n]++v.map (·.c)).foldl max 0=GY v (max 0 n):=by
   unfold GY
   simp only [List.singleton_append,a7,List.foldl_map]
  rw [f]
  have e:=Kq v (max 0 n)
  unfold X7
  simp only [ab,af,dk,al,aV,bj]
  by_cases h1:4611686018427387903<=GY v (max 0 n)
  ·simp [h1]
  ·simp only [h1,if_false,false_or]
   rw [wQ (by omega) (by omega)]
   by_cases h2:r < 1
   ·simp [h2]
   ·by_cases b:255 < r
    ·simp [h2,b]
    ·simp [h2,b]
 ·intro i s x d g
  have hi:i < v.length:=(ad.1 d).1
  refine ⟨by simp;omega,?_⟩
  unfold vP
  simp [xJ d,abN (show s.length < 2 ^ 20 by omega),au (show i < 2 ^ 62 by omega)]
 ·intro s _
  unfold vP
  simp
theorem Za {l k:List Mark} (hl:l.length < 2 ^ 20) (hk:k.length < 2 ^ 20):bX 2 16 (aL l) (aL k)=some (aL (l++k)):=by
 simp only [bX]
 rw [if_pos]
 ·simp
 ·refine ⟨by simp;omega,by simp [KQ]⟩
theorem Ka {n i:Nat} {k:b1} (h:i<=n):TQ (.int k (i:Int)) n=some i:=by
 simp only [TQ]
 rw [if_pos (by omega)];simp
theorem Az {n i:Nat} {k:b1} (h:i<=n):kV n (some (.int k (i:Int))) none=some (i,n):=by simp [kV,Ka h]
theorem Ly {n i:Nat} {k:b1} (h:i<=n):kV n none (some (.int k (i:Int)))=some (0,i):=by simp [kV,Ka h]
end Go.AM
namespace Go.AM
theorem Typed.one_inv {s:Sh} {cs:List IV} (h:Typed [s] cs): ∃c,cs=[c]/\ShOK s c:=by
 match cs,h.1 with
 | [c],_=>exact ⟨c,rfl,h.2 0 s c rfl rfl⟩
theorem Typed.cons_inv {s:Sh} {l:List Sh} {cs:List IV} (h:Typed (s::l) cs): ∃c a,cs=c::a/\ShOK s c/\Typed l a:=by
 match cs,h.1 with
 | c::a,hl=>exact ⟨c,a,rfl,h.2 0 s c rfl rfl,by simpa using hl,λj b c' h1 h2=>h.2 (j+1) b c' (by simpa using h1) (by simpa using h2)⟩
theorem Typed.nil_inv {cs:List IV} (h:Typed [] cs):cs=[]:=List.length_eq_zero_iff.1 h.1
theorem Yb {cs:List IV} (h:Typed [.int .i64] cs): ∃a,cs=[.int .i64 a]/\ -(2 ^ 63)<=a/\a < 2 ^ 63:=by
 obtain ⟨b,rfl,h0⟩:=h.one_inv
 cases h0 with
 | int k n h1=>
   simp only [Lit.wf,bx,decide_eq_true_eq] at h1
   have h1:IntKind.i64.min= -(2 ^ 63):=by rfl
   have h2:IntKind.i64.max=2 ^ 63 - 1:=by rfl
   exact ⟨n,rfl,by omega,by omega⟩
theorem TypedAll.cons_inv {l:List Sh} {L:List (List Sh)} {cs:List (List IV)} (h:TypedAll (l::L) cs): ∃c a,cs=c::a/\Typed l c/\TypedAll L a:=by
 cases h with
 | cons h t=>exact ⟨_,_,rfl,h,t⟩
theorem TypedAll.nil_inv {cs:List (List IV)} (h:TypedAll [] cs):cs=[]:=by cases h;rfl
end Go.AM
namespace Go.AM
structure MayP (v:List Mark):Prop where
 sorted:v.Pairwise λa b=>a.r < b.r
 ok: ∀x∈v,1<=x.r/\x.r<=255/\1<=x.c/\x.c<=4611686018427387903
theorem yY {α:Type} {R:α->α->Prop} (d: ∀a b c,R a b->R b c->R a c) {v:List α} (h: ∀(i:Nat) (hi:i+1 < v.length),R v[i] v[i+1]):v.Pairwise R:=by
 rw [b6]
 intro i j hi hj e
 obtain ⟨k,rfl⟩: ∃k,j=i+1+k:=⟨j - (i+1),by omega⟩
 induction k with
 | zero=>exact h i hj
 | succ k ih=>exact d _ _ _ (ih (by omega) (by omega)) (h (i+1+k) hj)
theorem Fl {v:List Mark}:XP v=true↔MayP v:=by
 unfold XP
 rw [b7,KA]
 constructor
 ·intro h
  refine ⟨yY (λa b c h1 h2=>by omega) λi hi=> ?_,λx d=> ?_⟩
  ·have:=h (i+1) v[i+1] (aB hi)
   simp only [b3,bB,decide_eq_false_iff_not,br] at this
   have j:=this.2
   have e:v.getD (i+1 - 1) v[i+1]=v[i]:=by
    rw [b4,a1,aB (by omega)];rfl
   rw [e] at j
   omega
  ·obtain ⟨i,hi⟩:=List.getElem?_of_mem d
   have:=h i x hi
   simp only [b3,decide_eq_false_iff_not] at this
   omega
 ·intro h i x d
  have h1:=h.ok x (b2 d)
  simp only [b3,bB,decide_eq_false_iff_not,br]
  refine ⟨by omega,?_⟩
  by_cases hi:0 < i
  ·refine .inr ?_
   have f:=(ad.1 d).1
   have e:v.getD (i - 1) x=v[i - 1]:=by
    rw [a1,aB (by omega)];rfl
   have:=b6.1 h.sorted (i - 1) i (by omega) f (by omega)
   rw [e]
   have g:v[i]=x:=by have:=(ad.1 d).2;exact this
   rw [g] at this
   omega
  ·exact .inl hi
theorem MayP.tail {x:Mark} {v:List Mark} (h:MayP (x::v)):MayP v:=⟨(a6.1 h.sorted).2,λy a=>h.ok y (a2 _ a)⟩
theorem MayP.nil:MayP []:=⟨.nil,λx a=>by simp at a⟩
theorem getM_none {v:List Mark} {r:Int} (h: ∀x∈v,x.r≠r):getM v r=0:=by
 induction v with
 | nil=>rfl
 | cons x v ih=>rw [getM,if_neg (h x ao)];exact ih λy a=>h y (a2 _ a)
theorem MayP.head_none {x:Mark} {v:List Mark} (h:MayP (x::v)) {r:Int} (hr:r<=x.r):getM v r=0:=
 getM_none λy a=>by have:=(a6.1 h.sorted).1 y a;omega
theorem MayP.nonneg {v:List Mark} (h:MayP v) (r:Int):0<=getM v r:=by
 induction v with
 | nil=>exact Int.le_refl _
 | cons x v ih=>
   rw [getM]
   split
   ·have:=h.ok x ao;omega
   ·exact ih h.tail
theorem MayP.mem {v:List Mark} (h:MayP v) {x:Mark} (a:x∈v):getM v x.r=x.c:=by
 induction v with
 | nil=>simp at a
 | cons y v ih=>
   rw [getM]
   rcases bs.1 a with rfl | a
   ·rw [if_pos rfl]
   ·have:=(a6.1 h.sorted).1 x a
    rw [if_neg (by omega)]
    exact ih h.tail a
theorem MayP.ext: ∀{v w:List Mark},MayP v->MayP w->(∀r,getM v r=getM w r)->v=w
 | [],[],_,_,_=>rfl
 | [],y::w,_,hw,h=>by
   have:=h y.r
   rw [hw.mem ao] at this
   have h1:=hw.ok y ao
   simp only [getM] at this
   omega
 | x::v,[],hv,_,h=>by
   have:=h x.r
   rw [hv.mem ao] at this
   have h1:=hv.ok x ao
   simp only [getM] at this
   omega
 | x::v,y::w,hv,hw,h=>by
   have h1:=hv.ok x ao
   have h2:=hw.ok y ao
   have e:x.r=y.r:=by
    rcases Int.lt_trichotomy x.r y.r with a | he | a
    ·have:=h x.r
     rw [hv.mem ao,getM,if_neg (by omega),hw.head_none (by omega)] at this
     omega
    ·exact he
    ·have:=h y.r
     rw [hw.mem ao,getM,if_neg (by omega),hv.head_none (by omega)] at this
     omega
   have d:x.c=y.c:=by
    have:=h x.r
    rw [getM,if_pos rfl,getM,if_pos e.symm] at this
    exact this
   have b:x=y:=by cases x;cases y;simp_all
   subst b
   congr 1
   refine MayP.ext hv.tail hw.tail λr=> ?_
   have:=h r
   rw [getM,getM] at this
   by_cases hr:x.r=r
   ·rw [hv.head_none (by omega),hw.head_none (by omega)]
   ·rw [if_neg hr,if_neg hr] at this;exact this
theorem xA {v:List Mark} {r:Int} (h: ¬(UE v r=true)): ∀x∈v,x.r≠r:= λx a e=>h (bM.2 ⟨x,a,by simp [Tt,e]⟩)
theorem Hi {c r a:Int}: ∀{v:List Mark},UE v r=true->getM (Dz v c r) a=if a=r then max (getM v r) c else getM v a
 | [],h=>by simp [UE] at h
 | x::v,h=>by
   by_cases b:x.r=r
   ·simp only [Dz,b,if_true,getM]
    by_cases hr:a=r
    ·simp [hr]
    ·have: ¬r=a:= λe=>hr e.symm
     simp [hr,this]
   ·have hv:UE v r=true:=by
     simp only [UE,List.any_cons,Tt,b,decide_false,bR] at h
     exact h
    simp only [Dz,b,if_false,getM]
    by_cases hr:a=r
    ·subst hr
     simp only [b,if_false,if_true]
     rw [Hi hv,if_pos rfl]
    ·simp only [hr,if_false]
     rw [Hi hv,if_neg hr]
theorem PW {c r a:Int}: ∀{v:List Mark},(∀x∈v,x.r≠r)->getM (Ff v c r) a=if a=r then c else getM v a
 | [],h=>by
   simp only [Ff,getM]
   by_cases hr:a=r
   ·simp [hr]
   ·have: ¬r=a:= λe=>hr e.symm
    simp [hr,this]
 | x::v,h=>by
   have b:=h x ao
   simp only [Ff]
   split
   ·simp only [getM]
    by_cases hr:a=r
    ·simp [hr]
    ·have: ¬r=a:= λe=>hr e.symm
     simp [hr,this]
   ·simp only [getM]
    rw [PW λy d=>h y (a2 _ d)]
    by_cases hr:a=r
    ·subst hr;simp [b]
    ·simp [hr]
theorem tT (v:List Mark) (c r a:Int):getM (kM v c r) a=if a=r then max (getM v r) c else getM v a:=by
 unfold kM
 split
 ·rename_i h;exact Hi h
 ·rename_i h
  have h0:=getM_none (xA h)
  split
  ·by_cases hr:a=r
   ·subst hr;rw [if_pos rfl,h0];omega
   ·rw [if_neg hr]
  ·rw [PW (xA h)]
   by_cases hr:a=r
   ·subst hr;rw [if_pos rfl,if_pos rfl,h0];omega
   ·rw [if_neg hr,if_neg hr]
theorem Nq {c r:Int}: ∀{v:List Mark} {y:Mark},y∈Dz v c r-> ∃x∈v,x.r=y.r/\(y=x\/(x.r=r/\y.c=max x.c c))
 | [],y,h=>by simp [Dz] at h
 | x::v,y,h=>by
   simp only [Dz] at h
   split at h
   ·rename_i a
    rcases bs.1 h with rfl | h
    ·exact ⟨x,ao,rfl,.inr ⟨a,rfl⟩⟩
    ·exact ⟨y,a2 _ h,rfl,.inl rfl⟩
   ·rcases bs.1 h with rfl | h
    ·exact ⟨y,ao,rfl,.inl rfl⟩
    ·obtain ⟨z,hz,h1,h2⟩:=Nq h
     exact ⟨z,a2 _ hz,h1,h2⟩
theorem KV {c r:Int}: ∀{v:List Mark} {y:Mark},y∈Ff v c r->y∈v\/y=⟨r,c⟩
 | [],y,h=>by simp [Ff] at h;exact .inr h
 | x::v,y,h=>by
   simp only [Ff] at h
   split at h
   ·rcases bs.1 h with rfl | h
    ·exact .inr rfl
    ·exact .inl h
   ·rcases bs.1 h with rfl | h
    ·exact .inl ao
    ·rcases KV h with h | h
     ·exact .inl (a2 _ h)
     ·exact .inr h
theorem HU {c r:Int}: ∀{v:List Mark},v.Pairwise (λa b=>a.r < b.r)->(Dz v c r).Pairwise λa b=>a.r < b.r
 | [],_=> .nil
 | x::v,h=>by
   obtain ⟨h1,h2⟩:=a6.1 h
   simp only [Dz]
   split
   ·exact a6.2 ⟨h1,h2⟩
   ·refine a6.2 ⟨λy d=> ?_,HU h2⟩
    obtain ⟨z,hz,e,_⟩:=Nq d
    rw [<-e];exact h1 z hz
theorem HT {c r:Int}: ∀{v:List Mark},(∀x∈v,x.r≠r)->v.Pairwise (λa b=>a.r < b.r)->(Ff v c r).Pairwise λa b=>a.r < b.r
 | [],_,_=>List.pairwise_singleton _ _
 | x::v,hn,h=>by
   obtain ⟨h1,h2⟩:=a6.1 h
   have e:=hn x ao
   simp only [Ff]
   split
   ·rename_i hr
    refine a6.2 ⟨λy d=> ?_,h⟩
    rcases bs.1 d with rfl | d
    ·exact hr
    ·have:=h1 y d;show r < y.r;omega
   ·refine a6.2 ⟨λy d=> ?_,HT (λy d=>hn y (a2 _ d)) h2⟩
    rcases KV d with d | rfl
    ·exact h1 y d
    ·show x.r < r;omega
theorem MayP.raise {v:List Mark} (h:MayP v) {c r:Int} (hr:1<=r/\r<=255) (hc:c<=4611686018427387903):MayP (kM v c r):=by
 unfold kM
 split
 ·refine ⟨HU h.sorted,λy a=> ?_⟩
  obtain ⟨x,b,e,h1 | ⟨_,h1⟩⟩:=Nq a
  ·subst h1;exact h.ok y b
  ·have:=h.ok x b;rw [<-e,h1];omega
 ·rename_i hh
  split
  ·exact h
  ·refine ⟨HT (xA hh) h.sorted,λy a=> ?_⟩
   rcases KV a with a | rfl
   ·exact h.ok y a
   ·show 1<=r/\r<=255/\1<=c/\c<=4611686018427387903;omega
theorem Xp {a b:List Mark} (e:MayP a) (hb: ∀r,0<=getM b r):Ba a b=true↔ ∀r,getM a r<=getM b r:=by
 unfold Ba
 rw [b7,<-cb,bM]
 constructor
 ·intro h r
  by_cases hh:UE a r=true
  ·obtain ⟨x,c,hp⟩:=bM.1 hh
   simp only [Tt,decide_eq_true_eq] at hp
   subst hp
   have: ¬(decide (getM b x.r < getM a x.r)=true):= λd=>h ⟨x,c,d⟩
   simp only [decide_eq_true_eq] at this
   omega
  ·rw [getM_none (xA hh)];exact hb r
 ·rintro h ⟨x,_,c⟩
  simp only [decide_eq_true_eq] at c
  have:=h x.r
  omega
theorem Bool.eq_of_iff {a b:Bool} (h:a=true↔b=true):a=b:=by cases a<;>cases b<;>simp_all
def P4 (c r:Int):Bool:=decide (1<=c)&&decide (c<=4611686018427387903)&&decide (1<=r)&&decide (r<=255)
end Go.AM
namespace Go.AM
theorem KP (b c d:Bool):ae (.bool b) (λ_=>some [IV.bool c]) (λ_=>some [IV.bool d])=some [IV.bool (cond b c d)]:=by cases b<;>rfl
def lU (s:ByteArray) (i:Nat):Option Nat:=(s.data.toList[i]?).map (·.toNat)
def IJ (s:ByteArray) (i lo hi:Nat):Bool:=match lU s i with | some b=>decide (lo<=b)&&decide (b<=hi) | none=>false
theorem aaY (s:ByteArray) (i:Nat):s[i]? =s.data.toList[i]? :=by
 rw [Array.getElem?_toList]
 unfold getElem?
 rfl
theorem BO (s:ByteArray):s.data.toList.length=s.size:=by rw [Array.length_toList];rfl
theorem Hc {s:ByteArray} {i b:Nat} (h:lU s i=some b):i < s.size/\b < 256:=by
 unfold lU at h
 obtain ⟨x,a,rfl⟩:=cc.1 h
 exact ⟨by rw [<-BO];exact (ad.1 a).1,x.toNat_lt⟩
theorem HK {s:ByteArray} {i:Nat} (h:i < s.size): ∃b,lU s i=some b:=by
 unfold lU
 rw [aB (by rw [BO];exact h)]
 exact ⟨_,rfl⟩
theorem TR {s:ByteArray} {i:Nat} (h:s.size<=i):lU s i=none:=by
 unfold lU
 rw [List.getElem?_eq_none (by rw [BO];exact h)]
 rfl
theorem acQ (s:ByteArray) (i:Nat):Gi (.str s) (.int .i64 (i:Int))=(lU s i).map λb=> .int .u8 (b:Int):=by
 simp only [Gi,Int.toNat_natCast,aaY,lU,Option.map_map]
 rw [if_pos (by omega)]
 rfl
def sgn (s:ByteArray) (i:Nat):Nat:=
 if IJ s i 0 127=true then 1
 else if (IJ s i 194 223&&IJ s (i+1) 128 191)=true then 2
 else if (IJ s (i+2) 128 191&&(IJ s i 224 224&&IJ s (i+1) 160 191||IJ s i 225 236&&IJ s (i+1) 128 191||IJ s i 238 239&&IJ s (i+1) 128 191||IJ s i 237 237&&IJ s (i+1) 128 159))=true then 3
 else if (IJ s (i+2) 128 191&&IJ s (i+3) 128 191&&(IJ s i 240 240&&IJ s (i+1) 144 191||IJ s i 241 243&&IJ s (i+1) 128 191||IJ s i 244 244&&IJ s (i+1) 128 143))=true then 4
 else 0
theorem sS {i k:Nat} (h:i+k < 2 ^ 62):aa .add (.int .i64 (i:Int)) (.int .i64 (k:Int))=some (.int .i64 ((i+k:Nat):Int)):=by
 rw [wQ (by omega) (by omega)];rfl
theorem aef {s:ByteArray} {i:Nat}:i+sgn s i<=s.size\/sgn s i=0:=by
 have a: ∀{j lo hi:Nat},IJ s j lo hi=true->j < s.size:= λ{j lo hi} h=>by
  unfold IJ at h
  cases hb:lU s j with
  | none=>rw [hb] at h;cases h
  | some b=>exact (Hc hb).1
 unfold sgn
 split
 ·rename_i h;have:=a h;left;omega
 ·split
  ·rename_i h;simp only [bx] at h;have:=a h.2;left;omega
  ·split
   ·rename_i h;simp only [bx] at h;have:=a h.1;left;omega
   ·split
    ·rename_i h;simp only [bx] at h;have:=a h.1.2;left;omega
    ·right;rfl
def scan (s:ByteArray) (i:Nat):Nat:=if h:i < s.size/\sgn s i≠0 then scan s (i+sgn s i) else i
 termination_by s.size - i
 decreasing_by omega
def Gk (s:ByteArray):Bool:=decide (scan s 0=s.size)
def uo (b:Nat):Nat×Nat×Nat×Bool:=
 if b < 128 then (0,128,191,true) else if b < 194 then (0,128,191,false) else if b < 224 then (1,128,191,true)
 else if b < 240 then (if b=224 then (2,160,191,true) else if b=237 then (2,128,159,true) else (2,128,191,true))
 else if b < 245 then (if b=240 then (3,144,191,true) else if b=244 then (3,128,143,true) else (3,128,191,true))
 else (0,128,191,false)
theorem Rz (b:Nat):qX (.int .u8 (b:Int))=some [.int .i64 ((uo b).1:Int),.int .u8 ((uo b).2.1:Int),.int .u8 ((uo b).2.2.1:Int),.bool (uo b).2.2.2]:=by
 unfold qX uo
 simp only [al,dc,ab,bj]
 have c1:((b:Int) < 128)=(b < 128):=propext (by omega)
 have c2:((b:Int) < 194)=(b < 194):=propext (by omega)
 have c3:((b:Int) < 224)=(b < 224):=propext (by omega)
 have c4:((b:Int) < 240)=(b < 240):=propext (by omega)
 have c5:((b:Int) < 245)=(b < 245):=propext (by omega)
 have c6:((b:Int)=224)=(b=224):=propext (by omega)
 have c7:((b:Int)=237)=(b=237):=propext (by omega)
 have a:((b:Int)=240)=(b=240):=propext (by omega)
 have c:((b:Int)=244)=(b=244):=propext (by omega)
 simp only [c1,c2,c3,c4,c5,c6,c7,a,c]
 repeat (first | rfl | split)
def ud:List Nat->Nat->Nat->Bool
 | [],_,_=>true
 | b::l,lo,hi=>decide (lo<=b)&&decide (b<=hi)&&ud l 128 191
def Qo (b:Nat):List IV:=[.int .u8 (b:Int)]
theorem WY {l:List Nat} (hl:l.length < 100) (lo hi:Nat):iter rounds (qz (.int .i64 (l.length:Int)) (.lst (l.map Qo))) [.int .u8 (lo:Int),.int .u8 (hi:Int),.int .i64 0]=some (if ud l lo hi=true then (0,[]) else (1,[])):=by
 rw [Fz (vs0:=[.int .u8 (lo:Int),.int .u8 (hi:Int),.int .i64 0]) (λi (s:Nat×Nat)=>[IV.int .u8 (s.1:Int),.int .u8 (s.2:Int),.int .i64 (i:Int)]) (λi s b=>if b < s.1\/s.2 < b then .inr (1,[]) else .inl (128,191)) (λ_=>(0,[])) (λ_ _=>True) l (lo,hi) rfl (by have:rounds=1000000:=rfl;omega) trivial]
 ·congr 1
  have key: ∀(l:List Nat) (k lo hi:Nat),I7 (λi (s:Nat×Nat) b=>if b < s.1\/s.2 < b then .inr (1,[]) else .inl (128,191)) (λ_=>((0,[]):Nat×List IV)) l k (lo,hi)=if ud l lo hi=true then (0,[]) else (1,[]):=by
   intro l
   induction l with
   | nil=>intro k lo hi;rfl
   | cons b l ih=>
     intro k lo hi
     simp only [I7,ud]
     by_cases h:b < lo\/hi < b
     ·rw [if_pos h]
      have: ¬(decide (lo<=b)&&decide (b<=hi)&&ud l 128 191)=true:=by
       simp only [bx,decide_eq_true_eq];omega
      simp only [this,if_false,a5]
     ·rw [if_neg h]
      have h1:lo<=b:=by omega
      have h2:b<=hi:=by omega
      simp only [h1,h2,decide_true,bd]
      exact ih (k+1) 128 191
  exact key l 0 lo hi
 ·intro i s b hb _
  have hi:i < l.length:=(ad.1 hb).1
  refine ⟨λ_ _=>trivial,?_⟩
  unfold qz
  simp only [af,ai,ay,al,aV,ab,Int.ofNat_lt,hi,decide_true,ah,ee (enc:=Qo) (sz:=1) hb rfl (Nat.zero_lt_one),cg (enc:=Qo) hb,Qo,List.getElem?_cons_zero,bj,au (show i < 2 ^ 62 by omega)]
  by_cases h1:b < s.1
  ·simp [h1]
  ·by_cases h2:s.2 < b
   ·simp [h1,h2]
   ·simp [h1,h2]
 ·intro s _
  unfold qz
  simp
theorem Xk (s:ByteArray): ∀i,(s.data.toList.map (·.toNat))[i]? =lU s i:= λi=>by rw [bm];rfl
theorem aaP {s:ByteArray} {i b:Nat} (hb:lU s i=some b):sgn s i=if (uo b).2.2.2=true/\(uo b).1 < s.size - i/\ud (((s.data.toList.map (·.toNat)).drop (i+1)).take (uo b).1) (uo b).2.1 (uo b).2.2.1=true then 1+(uo b).1 else 0:=by
 have hi:=(Hc hb).1
 have key: ∀(n k:Nat),k<=s.size->s.size - k>=n+1-> ∃c,lU s k=some c/\((s.data.toList.map (·.toNat)).drop k).take (n+1)=c::((s.data.toList.map (·.toNat)).drop (k+1)).take n:= λn k hk hn=>by
  obtain ⟨c,hc⟩:=HK (s:=s) (i:=k) (by omega)
  refine ⟨c,hc,?_⟩
  have A:k < (s.data.toList.map (·.toNat)).length:=by rw [b0,BO];omega
  rw [b5 A,List.take_succ_cons]
  congr 1
  have:=Xk s k
  rw [aB A,hc] at this
  exact Option.some.inj this
 have none_: ∀{k lo hi:Nat},s.size<=k->IJ s k lo hi=false:= λ{k lo hi} h=>by unfold IJ;rw [TR h]
 have some_: ∀{k c lo hi:Nat},lU s k=some c->IJ s k lo hi=(decide (lo<=c)&&decide (c<=hi)):= λ{k c lo hi} h=>by unfold IJ;rw [h]
 unfold sgn uo
 simp only [some_ hb]
 by_cases h1:b < 128
 ·have e:0 < s.size - i:=by omega
  simp [h1,ud,e,show b<=127 by omega]
 have l: ¬b<=127:=by omega
 by_cases h2:b < 194
 ·have q1: ¬194<=b:=by omega
  have F: ¬224<=b:=by omega
  have G: ¬225<=b:=by omega
  have H: ¬238<=b:=by omega
  have I: ¬237<=b:=by omega
  have r: ¬240<=b:=by omega
  have t: ¬241<=b:=by omega
  have u: ¬244<=b:=by omega
  simp [h1,h2,l,q1,F,G,H,I,r,t,u]
 have q:194<=b:=by omega
 by_cases o:b < 224
 ·have q1:b<=223:=by omega
  have F: ¬224<=b:=by omega
  have G: ¬225<=b:=by omega
  have H: ¬238<=b:=by omega
  have I: ¬237<=b:=by omega
  have r: ¬240<=b:=by omega
  have t: ¬241<=b:=by omega
  have u: ¬244<=b:=by omega
  by_cases hlen:1 < s.size - i
  ·obtain ⟨c1,d,t1⟩:=key 0 (i+1) (by omega) (by omega)
   simp only [ck,br] at t1
   simp [h1,h2,o,l,q,q1,F,G,H,I,r,t,u,hlen,t1,ud,some_ d]
  ·simp [h1,h2,o,l,q,q1,F,G,H,I,r,t,u,hlen,none_ (show s.size<=i+1 by omega)]
 have C: ¬b<=223:=by omega
 have D:224<=b:=by omega
 by_cases y:b < 240
 ·have r: ¬240<=b:=by omega
  have t: ¬241<=b:=by omega
  have u: ¬244<=b:=by omega
  by_cases hlen:2 < s.size - i
  ·obtain ⟨c1,d,t1⟩:=key 1 (i+1) (by omega) (by omega)
   obtain ⟨c2,p,E⟩:=key 0 (i+1+1) (by omega) (by omega)
   simp only [ck,br] at E
   simp only [cO,E] at t1
   have a:lU s (i+2)=some c2:=p
   by_cases f:b=224
   ·subst f
    simp [hlen,t1,ud,some_ d,some_ a,bC,a8,bA]
   ·by_cases g:b=237
    ·subst g
     simp [hlen,t1,ud,some_ d,some_ a,bC,a8,bA]
    ·have v: ¬b<=224:=by omega
     have w:225<=b:=by omega
     have x:b<=239:=by omega
     have m:(b<=236\/238<=b):=by omega
     have U: ¬(237<=b/\b<=237):=by omega
     simp only [h1,h2,o,y,f,g,l,C,q,D,r,t,u,hlen,t1,ud,some_ d,some_ a,v,w,x,if_true,if_false,decide_true,decide_false,bd,c0,cl,cv,a5,bR,c8,true_and]
     rcases m with m | m
     ·have J: ¬238<=b:=by omega
      have K: ¬(237<=b):=by omega
      simp [m,J,K,bC,a8,bA]
     ·have J: ¬b<=236:=by omega
      have K: ¬(b<=237):=by omega
      simp [m,J,K,bC,a8,bA]
  ·have z:=none_ (lo:=128) (hi:=191) (show s.size<=i+2 by omega)
   simp only [h1,h2,o,y,l,C,q,D,r,t,u,z,if_true,if_false,decide_true,decide_false,bd,c0,cl,cv,a5,bR,c8,true_and]
   by_cases f:b=224
   ·simp [f,hlen]
   ·by_cases g:b=237
    ·simp [g,hlen]
    ·simp [f,g,hlen]
 have N:240<=b:=by omega
 have O: ¬b<=224:=by omega
 have P: ¬b<=236:=by omega
 have Q: ¬b<=239:=by omega
 have R: ¬b<=237:=by omega
 have S: ¬b=224:=by omega
 by_cases L:b < 245
 ·by_cases hlen:3 < s.size - i
  ·obtain ⟨c1,d,t1⟩:=key 2 (i+1) (by omega) (by omega)
   obtain ⟨c2,p,E⟩:=key 1 (i+1+1) (by omega) (by omega)
   obtain ⟨c3,M,T⟩:=key 0 (i+1+1+1) (by omega) (by omega)
   simp only [ck,br] at T
   simp only [cO,T] at E
   simp only [cO,E] at t1
   have a:lU s (i+2)=some c2:=p
   have j:lU s (i+3)=some c3:=M
   by_cases f:b=240
   ·subst f
    simp [hlen,t1,ud,some_ d,some_ a,some_ j,bC,a8,bA]
   ·by_cases g:b=244
    ·subst g
     simp [hlen,t1,ud,some_ d,some_ a,some_ j,bC,a8,bA]
    ·have v: ¬b<=240:=by omega
     have w:241<=b:=by omega
     have x:b<=243:=by omega
     have m: ¬244<=b:=by omega
     simp [h1,h2,o,y,L,f,g,l,C,q,D,N,O,P,Q,R,hlen,t1,ud,some_ d,some_ a,some_ j,v,w,x,m,bC,a8,bA]
  ·have z:=none_ (lo:=128) (hi:=191) (show s.size<=i+3 by omega)
   simp only [h1,h2,o,y,L,l,C,q,D,N,O,P,Q,R,z,if_true,if_false,decide_true,decide_false,bd,c0,cl,cv,a5,bR,c8,true_and]
   by_cases f:b=240
   ·simp [f,hlen]
   ·by_cases g:b=244
    ·simp [g,hlen]
    ·simp [f,g,hlen]
 ·have v: ¬b<=240:=by omega
  have w: ¬b<=243:=by omega
  have x: ¬b<=244:=by omega
  simp [h1,h2,o,y,L,l,C,q,D,N,O,P,Q,R,v,w,x]
theorem Pn (s:ByteArray) (a b:Nat):(s.extract a b).data.toList.map (·.toNat)=((s.data.toList.map (·.toNat)).drop a).take (b - a):=by
 have:(s.extract a b).data=s.data.extract a b:=by rw [ByteArray.data_extract]
 rw [this,Array.toList_extract,List.extract_eq_take_drop,dq,List.map_drop]
theorem XF {s:ByteArray} (hs:s.size < 2 ^ 40) {n i:Nat} (hn:n < 2 ^ 40) (hi:i < s.size):kH (.str s) [.int .i64 (n:Int),.int .i64 (i:Int)]=some (if sgn s i≠0 then .next [.int .i64 ((n+1:Nat):Int),.int .i64 ((i+sgn s i:Nat):Int)] else .done 0 [.int .i64 (n:Int),.int .i64 (i:Int)]):=by
 obtain ⟨b,hb⟩:=HK hi
 have r:=(Hc hb).2
 have hr:(uo b).1<=3:=by unfold uo;repeat (first | split | simp)
 rw [aaP hb]
 unfold kH
 have c:aa .sub (.int .i64 (s.size:Int)) (.int .i64 (i:Int))=some (.int .i64 ((s.size - i:Nat):Int)):=by
  rw [nx (by omega) (by omega)];congr 2;omega
 simp only [sT,ai,af,ay,aH,al,Int.ofNat_lt,ab,hi,decide_true,ah,acQ,hb,bb,Rz,aZ,c,e9,Int.ofNat_le,db,b7]
 generalize u:uo b=x at hr ⊢
 obtain ⟨rest,lo,e,is⟩:=x
 simp only at hr ⊢
 cases is with
 | false=>simp
 | true=>
   simp only [Bool.true_eq_false,if_false,ab,af,true_and]
   by_cases hle:s.size - i<=rest
   ·have: ¬rest < s.size - i:=by omega
    simp [hle,this]
   ·have f:rest < s.size - i:=by omega
    have k:aa .add (.int .i64 (i:Int)) (.int .i64 1)=some (.int .i64 ((i+1:Nat):Int)):=au (by omega)
    have m:aa .add (.int .i64 ((i+1:Nat):Int)) (.int .i64 (rest:Int))=some (.int .i64 ((i+1+rest:Nat):Int)):=sS (by omega)
    have o:aa .add (.int .i64 1) (.int .i64 (rest:Int))=some (.int .i64 ((1+rest:Nat):Int)):=sS (i:=1) (by omega)
    have p:aa .add (.int .i64 (i:Int)) (.int .i64 ((1+rest:Nat):Int))=some (.int .i64 ((i+(1+rest):Nat):Int)):=sS (by omega)
    have q:aa .add (.int .i64 (n:Int)) (.int .i64 1)=some (.int .i64 ((n+1:Nat):Int)):=au (by omega)
    have j: ∀(n i:Nat),i<=n->TQ (.int .i64 (i:Int)) n=some i:= λn i h=>by
     simp only [TQ];rw [if_pos (by omega)];simp
    have g:fx (.str s) (some (.int .i64 ((i+1:Nat):Int))) (some (.int .i64 ((i+1+rest:Nat):Int)))=some (.str (s.extract (i+1) (i+1+rest))):=by
     simp only [fx,kV,j s.size (i+1+rest) (by omega),j (i+1+rest) (i+1) (by omega),ab]
    generalize hl:((s.data.toList.map (·.toNat)).drop (i+1)).take rest=l
    have t:l.length=rest:=by
     rw [<-hl];simp only [List.length_take,List.length_drop,b0,BO];omega
    have d:Tw (.str (s.extract (i+1) (i+1+rest)))=some (.lst (l.map Qo)):=by
     simp only [Tw]
     congr 2
     have h1:(s.extract (i+1) (i+1+rest)).data.toList.map (λb=>[IV.int .u8 (b.toNat:Int)])=((s.extract (i+1) (i+1+rest)).data.toList.map (·.toNat)).map Qo:=by
      rw [List.map_map];rfl
     rw [h1,Pn,show i+1+rest - (i+1)=rest by omega,hl]
    simp only [decide_eq_true_eq,hle,if_false,k,m,g,d,ab,aw,b0,WY (show l.length < 100 by omega),decide_false,a5,f,true_and]
    by_cases a:ud l lo e=true
    ·simp only [a,if_true,aK,o,p,q,ab]
     rw [if_pos (by omega)]
     rfl
    ·simp only [a,if_false,adk,a5]
     simp
theorem K8 {s:ByteArray} (hs:s.size < 2 ^ 39): ∀(m n i:Nat),i<=s.size->n<=i->s.size - i < m-> ∃k:Nat,iter m (kH (.str s)) [.int .i64 (n:Int),.int .i64 (i:Int)]=some (0,[.int .i64 (k:Int),.int .i64 (scan s i:Int)])
 | 0,n,i,_,_,h=>by omega
 | m+1,n,i,hi,hn,hm=>by
   by_cases h:i < s.size
   ·simp only [iter,XF (show s.size < 2 ^ 40 by omega) (show n < 2 ^ 40 by omega) h,ab]
    rw [scan]
    by_cases h2:sgn s i=0
    ·have: ¬(i < s.size/\sgn s i≠0):= λhh=>hh.2 h2
     rw [dif_neg this]
     simp only [h2,ne_eq,not_true_eq_false,if_false]
     exact ⟨n,rfl⟩
    ·have hle:=aef (s:=s) (i:=i)
     rw [dif_pos ⟨h,h2⟩]
     simp only [ne_eq,h2,not_false_eq_true,if_true]
     exact K8 hs m (n+1) (i+sgn s i) (by omega) (by omega) (by omega)
   ·have hf:kH (.str s) [.int .i64 (n:Int),.int .i64 (i:Int)]=some (.done 0 [.int .i64 (n:Int),.int .i64 (i:Int)]):=by
     unfold kH
     simp only [sT,ai,af,al,Int.ofNat_lt,ab,h,decide_false,ag]
    rw [scan,dif_neg (λhh=>h hh.1)]
    exact ⟨n,by simp only [iter,hf,ab]⟩
theorem CN {s:ByteArray} (hs:s.size < 2 ^ 19):jI (.str s)=some [.bool (Gk s)]:=by
 unfold jI sI Gk
 obtain ⟨k,hk⟩:=K8 (s:=s) (by omega) rounds 0 0 (ds _) (ec _) (by have:rounds=1000000:=rfl;omega)
 rw [show (IV.int .i64 0)= .int .i64 ((0:Nat):Int) from rfl,hk]
 simp only [ab,aK,af,ai,wo,dm,bb,sT,dc,dQ]
 congr 3
 exact decide_eq_decide.2 (by omega)
end Go.AM
namespace Go.AM
def xQ {α:Type} (R:α->α->Bool):List α->Bool
 | []=>true
 | [_]=>true
 | x::y::l=>R x y&&xQ R (y::l)
theorem FD {α:Type} {R:α->α->Bool}: ∀{l:List α},xQ R l=true↔ ∀(i:Nat) (x y:α),l[i]? =some x->l[i+1]? =some y->R x y=true
 | []=>by simp [xQ]
 | [x]=>by simp [xQ]
 | x::y::l=>by
   simp only [xQ,bx]
   rw [FD]
   constructor
   ·rintro ⟨h1,h2⟩ i a b c hb
    cases i with
    | zero=>cases c;cases hb;exact h1
    | succ i=>exact h2 i a b (by simpa using c) (by simpa using hb)
   ·intro h
    exact ⟨h 0 x y rfl rfl,λi a b c hb=>h (i+1) a b (by simpa using c) (by simpa using hb)⟩
theorem aaV {α:Type} {R:α->α->Bool} {l:List α}:anyI (λi x=>decide (0 < i)&& !R (l.getD (i - 1) x) x) l 0= !xQ R l:=by
 have key:anyI (λi x=>decide (0 < i)&& !R (l.getD (i - 1) x) x) l 0=false↔xQ R l=true:= ?_
 ·cases h1:anyI (λi x=>decide (0 < i)&& !R (l.getD (i - 1) x) x) l 0<;>cases h2:xQ R l<;>simp_all
 rw [KA,FD]
 constructor
 ·intro h i x y a d
  have:=h (i+1) y d
  simp only [br,Nat.lt_add_left_iff_pos,bB,decide_eq_false_iff_not,c9,b4] at this
  have b:l.getD i y=x:=by rw [a1,a];rfl
  rw [b] at this
  rcases this with h1 | h1
  ·omega
  ·exact h1
 ·intro h i x a
  simp only [br,bB,decide_eq_false_iff_not,c9]
  cases i with
  | zero=>exact .inl (by omega)
  | succ i=>
    have c:=(ad.1 a).1
    have hp:l[i]? =some l[i]:=aB (by omega)
    have b:l.getD i x=l[i]:=by rw [a1,hp];rfl
    rw [b4,b]
    exact .inr (h i _ _ hp a)
def befB (c r c' a:Int):Bool:=decide (c < c')||decide (c=c')&&decide (r < a)
def F0 (a b:Mv):Bool:=befB a.c a.r b.c b.r
def Vs (ch par:Int) (nm:ByteArray):Bool:=decide (1<=ch)&&decide (ch<=2147483647)&&decide (0<=par)&&decide (par<=2147483647)&&decide (nm.size<=64)&&Gk nm
def oneV (m:Mv):Bool:=P4 m.c m.r&&Vs m.ch m.par m.nm
def mayV (l:List Mv):Bool:=decide (l.length<=2000)&&(l.all oneV&&xQ F0 l)
theorem Av (ch par:Int) (nm:ByteArray) (x:IV):lu (.int .i64 ch) (.int .i64 par) (.str nm) x=some [.bool (Vs ch par nm)]:=by
 unfold lu Vs
 simp only [dk,e9,sT,ab,bj]
 by_cases h1:1<=ch
 ·by_cases h2:ch<=2147483647
  ·by_cases a:0<=par
   ·by_cases b:par<=2147483647
    ·by_cases c:nm.size<=64
     ·have:((nm.size:Int)<=64):=by omega
      simp [h1,h2,a,b,c,this,CN (show nm.size < 2 ^ 19 by omega)]
     ·have: ¬((nm.size:Int)<=64):=by omega
      simp [h1,h2,a,b,c,this]
    ·simp [h1,h2,a,b]
   ·simp [h1,h2,a]
  ·simp [h1,h2]
 ·simp [h1]
theorem E0 (m:Mv):oA (.int .i64 m.c) (.int .i64 m.r) (.int .i64 m.par) (.int .i64 m.ch) (.str m.nm) (.flt .f64 m.rk)=some [.int .i64 m.ch,.int .i64 m.par,.str m.nm,.flt .f64 m.rk]:=by
 unfold oA;simp
theorem xo (m:Mv):lr (.int .i64 m.c) (.int .i64 m.r) (.int .i64 m.par) (.int .i64 m.ch) (.str m.nm) (.flt .f64 m.rk)=some [.bool (oneV m)]:=by
 unfold lr oneV P4
 simp only [E0,dk,e9,ab,af,ai,ay,aH,Av,bj]
 by_cases h1:1<=m.c
 ·by_cases h2:m.c<=4611686018427387903
  ·by_cases a:1<=m.r
   ·by_cases b:m.r<=255
    ·simp [h1,h2,a,b]
    ·simp [h1,h2,a,b]
   ·simp [h1,h2,a]
  ·simp [h1,h2]
 ·simp [h1]
theorem QC: ∀{l:List Mv} {v:List Mark},MayP v->(∀m∈l,1<=m.c/\m.c<=4611686018427387903/\1<=m.r/\m.r<=255)->MayP (l.foldl (λv m=>kM v m.c m.r) v)
 | [],v,hv,_=>hv
 | m::l,v,hv,h=>by
   have hm:=h m ao
   exact QC (l:=l) (hv.raise (c:=m.c) (r:=m.r) hm.2.2 hm.2.1) λx a=>h x (a2 _ a)
theorem K3 (r:Int): ∀(l:List Mv) (v:List Mark),getM (l.foldl (λv m=>kM v m.c m.r) v) r=l.foldl (λn m=>if r=m.r then max n m.c else n) (getM v r)
 | [],v=>rfl
 | m::l,v=>by
   simp only [a7]
   rw [K3 r l,tT]
   congr 1
   split
   ·rename_i e;rw [e]
   ·rfl
def supV (r:Int) (l:List Mv) (n:Int):Int:=l.foldl (λn m=>if r=m.r then max n m.c else n) n
theorem X9 (r:Int): ∀(l:List Mv) (n:Int),n<=supV r l n
 | [],n=>Int.le_refl _
 | m::l,n=>by
   have:=X9 r l (if r=m.r then max n m.c else n)
   simp only [supV,a7] at this ⊢
   split at this<;>(split<;>omega)
theorem Va (r:Int): ∀(l:List Mv) (n:Int),∀m∈l,m.r=r->m.c<=supV r l n
 | [],n,m,hm,_=>by simp at hm
 | x::l,n,m,hm,hr=>by
   rcases bs.1 hm with rfl | hm
   ·have:=X9 r l (if r=m.r then max n m.c else n)
    rw [if_pos hr.symm] at this
    simp only [supV,a7,if_pos hr.symm] at this ⊢
    omega
   ·simp only [supV,a7]
    exact Va r l _ m hm hr
theorem Nm (r:Int): ∀(l:List Mv) (n k:Int),supV r l (max n k)=max n (supV r l k)
 | [],n,k=>rfl
 | m::l,n,k=>by
   simp only [supV,a7]
   by_cases h:r=m.r
   ·simp only [h,if_true]
    have:=Nm m.r l n (max k m.c)
    simp only [supV] at this
    rw [show max (max n k) m.c=max n (max k m.c) by omega]
    exact this
   ·simp only [h,if_false]
    exact Nm r l n k
theorem abR {l:List Mv} {i:Nat} (hi:i<=l.length):kT 6 (aI l) none (some (.int .i64 (i:Int)))=some (aI (l.take i)):=by
 simp only [kT]
 rw [if_pos (by simp [eMv])]
 simp only [b0,Ly hi,ab,cd,Nat.sub_zero]
 rw [<-dq]
theorem VH: ∀(v:List Mark) (n:Int),∀x∈v,x.c<=GY v n
 | [],n,x,h=>by simp at h
 | y::v,n,x,h=>by
   rcases bs.1 h with rfl | h
   ·have:=Kq v (max n x.c)
    simp only [GY,a7] at this ⊢
    omega
   ·exact VH v (max n y.c) x h
theorem TI {v:List Mark} {n:Int} (h0:0<=n) (r:Int):getM v r<=GY v n:=by
 rw [RO]
 cases h:v.findIdx? (Tt r) with
 | none=>have:=Kq v n;simp only;omega
 | some i=>
   obtain ⟨x,b,_⟩:=vj h
   have a:v.getD i ⟨0,0⟩=x:=by rw [a1,b];rfl
   simp only [a]
   exact VH v n x (b2 b)
end Go.AM
