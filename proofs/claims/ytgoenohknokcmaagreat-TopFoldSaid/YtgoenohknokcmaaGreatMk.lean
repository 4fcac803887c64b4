/- Plain lemmas on the abstract machine's operations and loops. -/
import Derived.Test.YtgoenohknokcmaaGreatSh
open Option renaming bind_some->ab,map_some->a8,map_eq_some_iff->cc
open List renaming getElem?_eq_some_iff->ad,getElem?_eq_getElem->ao,getD_eq_getElem?_getD->aB,mem_cons_of_mem->a1,mem_cons_self->a5,pairwise_cons->a6,findIdx?_eq_some_iff_getElem->bd,getElem?_map->bf,length_map->bx,any_eq_true->bC,findIdx?_cons->bM,foldl_cons->bR,mem_cons->b0,mem_of_getElem?->b2,drop_eq_getElem_cons->b5,pairwise_iff_getElem->b6,all_cons->ca,drop_zero->cd,take_zero->ck,length_cons->dd,map_take->dq,map_drop->ds
open Bool renaming false_eq_true->a2,and_left_comm->a7,true_and->bb,and_eq_true->br,and_assoc->bs,and_eq_false_iff->bA,and_comm->bB,false_or->bO,or_eq_false_iff->b3,not_eq_true'->b7,not_eq_true->cb,false_and->cl,and_false->cv,and_true->c0,or_false->c8,not_eq_false'->c9
open Nat renaming zero_add->bm,add_sub_cancel->b4,reduceAdd->cO,zero_le->eg,le_refl->ek
open Go renaming IntKind->b1
set_option linter.unusedVariables false
set_option linter.unusedSimpArgs false
namespace Go.AM
@[simp] theorem af (x:IV) (l:List IV):nth (x::l) 0=x:=rfl
@[simp] theorem agi (x:IV) (l:List IV) (n:Nat):nth (x::l) (n+1)=nth l n:=by simp [nth]
@[simp] theorem ai (x y:IV) (l:List IV):nth (x::y::l) 1=y:=rfl
@[simp] theorem ay (x y z:IV) (l:List IV):nth (x::y::z::l) 2=z:=rfl
@[simp] theorem az (x y z a:IV) (l:List IV):nth (x::y::z::a::l) 3=a:=rfl
@[simp] theorem bG (x y z a b:IV) (l:List IV):nth (x::y::z::a::b::l) 4=b:=rfl
@[simp] theorem bE (x y z a b c:IV) (l:List IV):nth (x::y::z::a::b::c::l) 5=c:=rfl
@[simp] theorem mf (x y z a b c d:IV) (l:List IV):nth (x::y::z::a::b::c::d::l) 6=d:=rfl
@[simp] theorem wF (x y z a b c d e:IV) (l:List IV):nth (x::y::z::a::b::c::d::e::l) 7=e:=rfl
@[simp] theorem ah {R:Type} (t e:Unit->Option R):ae (.bool true) t e=t ():=rfl
@[simp] theorem ag {R:Type} (t e:Unit->Option R):ae (.bool false) t e=e ():=rfl
theorem bj {R:Type} (p:Prop) [Decidable p] (t e:Unit->Option R):ae (.bool (decide p)) t e=if p then t () else e ():=by
 by_cases h:p<;>simp [h,ae]
theorem dc {R:Type} (b:Bool) (t e:Unit->Option R):ae (.bool b) t e=if b=true then t () else e ():=by cases b<;>rfl
@[simp] theorem al (k:b1) (a b:Int):aa .lss (.int k a) (.int k b)=some (.bool (decide (a < b))):=by simp [aa,cm]
@[simp] theorem jU (k:b1) (a b:Int):aa .leq (.int k a) (.int k b)=some (.bool (decide (a<=b))):=by simp [aa,cm]
@[simp] theorem aQ (k:b1) (a b:Int):aa .gtr (.int k a) (.int k b)=some (.bool (decide (b < a))):=by simp [aa,cm]
@[simp] theorem de (k:b1) (a b:Int):aa .geq (.int k a) (.int k b)=some (.bool (decide (b<=a))):=by simp [aa,cm]
@[simp] theorem dI (k:b1) (a b:Int):aa .eql (.int k a) (.int k b)=some (.bool (decide (a=b))):=by
  simp only [aa,cm,if_true];congr 2
@[simp] theorem dm (k:b1) (a b:Int):aa .neq (.int k a) (.int k b)=some (.bool (decide (a≠b))):=by
  simp only [aa,cm,if_true,bne]
  congr 2
  by_cases h:a=b<;>simp [h]
@[simp] theorem ZB (a b:Bool):PU .eql (.bool a) (.bool b)=some (.bool (a==b)):=rfl
@[simp] theorem afn (a b:Bool):PU .neq (.bool a) (.bool b)=some (.bool !(a==b)):=rfl
@[simp] theorem aW (b:Bool):lK .not (.bool b)=some (.bool !b):=rfl
theorem wrap64 {a:Int} (h1: -(2 ^ 63)<=a) (h2:a < 2 ^ 63):IntKind.i64.wrap a=a:=by
 rw [IntKind.wrap_i64];omega
theorem Ad {a b:Int} (h1: -(2 ^ 63)<=a+b) (h2:a+b < 2 ^ 63):aa .add (.int .i64 a) (.int .i64 b)=some (.int .i64 (a+b)):=by
 simp only [aa,cm,if_true,wrap64 h1 h2]
theorem pC {a b:Int} (h1: -(2 ^ 63)<=a - b) (h2:a - b < 2 ^ 63):aa .sub (.int .i64 a) (.int .i64 b)=some (.int .i64 (a - b)):=by
 simp only [aa,cm,if_true,wrap64 h1 h2]
theorem au {i:Nat} (h:i < 2 ^ 62):aa .add (.int .i64 (i:Int)) (.int .i64 1)=some (.int .i64 ((i+1:Nat):Int)):=by
 rw [Ad (by omega) (by omega)];rfl
theorem sN {i:Nat} (h:i < 2 ^ 62) (h0:0 < i):aa .sub (.int .i64 (i:Int)) (.int .i64 1)=some (.int .i64 ((i - 1:Nat):Int)):=by
 rw [pC (by omega) (by omega)]
 congr 2;omega
@[simp] theorem acj (k:b1) (a b:Int):imax (.int k a) (.int k b)=some (.int k (max a b)):=by
  simp only [imax,if_true]
  congr 2
  simp only [Int.max_def]
  split<;>split<;>omega
@[simp] theorem ado (k:b1) (a b:Int):XJ (.int k a) (.int k b)=some (.int k (min a b)):=by
  simp only [XJ,if_true]
  congr 2
  simp only [Int.min_def]
  split<;>split<;>omega
@[simp] theorem aw (es:List (List IV)):aD (.lst es)=some (.int .i64 es.length):=rfl
@[simp] theorem sK (s:ByteArray):gM (.str s)=some (.int .i64 s.size):=rfl
@[simp] theorem cr (es:List (List IV)):bU (.lst es)=es.length:=rfl
@[simp] theorem Zw (es:List (List IV)) (l h:Nat):DR (.lst es) l h= .lst ((es.drop l).take (h - l)):=rfl
@[simp] theorem du:av []=some []:=rfl
@[simp] theorem dR (b:Bool) (l:List IV):av (.bool b::l)=(av l).map (.bool b:: ·):=by
  simp only [av,ca,IV.scalar,bb];split<;>rfl
@[simp] theorem wL (k:b1) (n:Int) (l:List IV):av (.int k n::l)=(av l).map (.int k n:: ·):=by
  simp only [av,ca,IV.scalar,bb];split<;>rfl
@[simp] theorem aa5 (k:FloatKind) (n:Nat) (l:List IV):av (.flt k n::l)=(av l).map (.flt k n:: ·):=by
  simp only [av,ca,IV.scalar,bb];split<;>rfl
@[simp] theorem agu (s:ByteArray) (l:List IV):av (.str s::l)=(av l).map (.str s:: ·):=by
  simp only [av,ca,IV.scalar,bb];split<;>rfl
@[simp] theorem aN {R:Type} (x:Option R) (l:List (Option R)):eM 0 (x::l)=x:=rfl
@[simp] theorem acb {R:Type} (x y:Option R) (l:List (Option R)):eM 1 (x::y::l)=y:=rfl
@[simp] theorem ag7 {R:Type} (x y z:Option R) (l:List (Option R)):eM 2 (x::y::z::l)=z:=rfl
theorem ea {α:Type} {enc:α->List IV} {l:List α} {i:Nat} {x:α} {sz:Nat} (h:l[i]? =some x) (hs:(enc x).length=sz) (hp:0 < sz):aE (.lst (l.map enc)) (.int .i64 (i:Int)) sz=some i:=by
 have hi:i < l.length:=(ad.1 h).1
 simp only [aE]
 rw [if_pos]
 ·simp
 ·refine ⟨by omega,by simp;omega,?_,hp⟩
  simp only [Int.toNat_natCast,aB,bf,h,a8,Option.getD_some,hs]
theorem qG {α:Type} {enc:α->List IV} {l:List α} {i:Nat} {x:α} {sz:Nat} (h:l[i]? =some x) (hs:(enc x).length=sz):eV (.lst (l.map enc)) i 0 sz=some (enc x):=by
 simp only [eV,bf,h,a8,ab,bm,cd]
 rw [if_pos (by omega),<-hs,List.take_length]
theorem bX {α:Type} {enc:α->List IV} {l:List α} {i j:Nat} {x:α} (h:l[i]? =some x):cV (.lst (l.map enc)) i j=(enc x)[j]? :=by
 simp only [cV,bf,h,a8,ab]
theorem eb {n i:Nat} {k:b1} (h:i < n):bP n (.int k (i:Int))=some i:=by
 simp only [bP]
 rw [if_pos (by omega)];simp
def JD {α a:Type} (step:Nat->a->α->a ⊕ (Nat×List IV)) (out:a->Nat×List IV):List α->Nat->a->Nat×List IV
 | [],_,s=>out s
 | x::xs,i,s=>match step i s x with | .inl b=>JD step out xs (i+1) b | .inr p=>p
theorem QE {α b:Type} {f:List IV->Option SR} {enc:Nat->b->List IV} {step:Nat->b->α->b ⊕ (Nat×List IV)} {out:b->Nat×List IV} (I:Nat->b->Prop) (l:List α)
  (hs: ∀i s x,l[i]? =some x->I i s->(∀a,step i s x= .inl a->I (i+1) a)/\f (enc i s)=some (match step i s x with | .inl a=> .next (enc (i+1) a) | .inr p=> .done p.1 p.2))
  (he: ∀s,I l.length s->f (enc l.length s)=some (.done (out s).1 (out s).2)):
  ∀(n k:Nat) (s:b),k<=l.length->l.length - k < n->I k s->iter n f (enc k s)=some (JD step out (l.drop k) k s)
 | 0,k,s,_,h,_=>by omega
 | n+1,k,s,hk,hn,e=>by
   by_cases h:k=l.length
   ·subst h
    simp only [iter,he s e,ab,List.drop_length,JD]
   ·have c:k < l.length:=by omega
    have g:l[k]? =some l[k]:=ao c
    obtain ⟨h1,h2⟩:=hs k s l[k] g e
    rw [b5 c]
    simp only [iter,h2,ab,JD]
    cases d:step k s l[k] with
    | inl a=>exact QE I l hs he n (k+1) a (by omega) (by omega) (h1 a d)
    | inr p=>rfl
theorem EC {α a:Type} {f:List IV->Option SR} {vs0:List IV} (enc:Nat->a->List IV) (step:Nat->a->α->a ⊕ (Nat×List IV)) (out:a->Nat×List IV) (I:Nat->a->Prop) (l:List α) (s:a) (h0:vs0=enc 0 s) (hl:l.length < rounds) (c:I 0 s)
  (hs: ∀i s x,l[i]? =some x->I i s->(∀b,step i s x= .inl b->I (i+1) b)/\f (enc i s)=some (match step i s x with | .inl b=> .next (enc (i+1) b) | .inr p=> .done p.1 p.2))
  (he: ∀s,I l.length s->f (enc l.length s)=some (.done (out s).1 (out s).2)):iter rounds f vs0=some (JD step out l 0 s):=by
 subst h0
 have:=QE I l hs he rounds 0 s (eg _) (by omega) c
 simpa using this
theorem k9 {α:Type} {f:List IV->Option SR} {vs0:List IV} (enc:Nat->List IV) (p:α->Bool) (c:Nat) (b:Nat->List IV) (d:Nat) (a:List IV) (l:List α) (h0:vs0=enc 0) (hl:l.length < rounds)
  (hs: ∀i x,l[i]? =some x->f (enc i)=some (if p x=true then .done c (b i) else .next (enc (i+1)))) (he:f (enc l.length)=some (.done d a)):
  iter rounds f vs0=some (match l.findIdx? p with | some i=>(c,b i) | none=>(d,a)):=by
 rw [EC (vs0:=vs0) (λi (_:Unit)=>enc i) (λi _ x=>if p x=true then .inr (c,b i) else .inl ()) (λ_=>(d,a)) (λ_ _=>True) l () h0 hl trivial (λi s x e _=>⟨λ_ _=>trivial,by rw [hs i x e];split<;>rfl⟩) (λ_ _=>he)]
 have key: ∀(l:List α) (k:Nat),JD (λi (_:Unit) x=>if p x=true then .inr (c,b i) else .inl ()) (λ_=>(d,a)) l k ()=match l.findIdx? p with | some i=>(c,b (k+i)) | none=>(d,a):=by
  intro l
  induction l with
  | nil=>intro k;rfl
  | cons x l ih=>
    intro k
    simp only [JD,bM]
    by_cases h:p x=true
    ·simp [h]
    ·simp only [h,if_false,a2]
     rw [ih]
     cases l.findIdx? p with
     | none=>rfl
     | some i=>simp;congr 1;omega
 rw [key l 0]
 cases l.findIdx? p<;>simp
def anyI {α:Type} (bad:Nat->α->Bool):List α->Nat->Bool
 | [],_=>false
 | x::l,k=>bad k x||anyI bad l (k+1)
theorem PM {α:Type} {bad:Nat->α->Bool}: ∀{l:List α} {k:Nat},anyI bad l k=true↔ ∃i x,l[i]? =some x/\bad (k+i) x=true
 | [],k=>by simp [anyI]
 | y::l,k=>by
   simp only [anyI,Bool.or_eq_true]
   rw [PM]
   constructor
   ·rintro (h | ⟨i,x,h1,h2⟩)
    ·exact ⟨0,y,rfl,h⟩
    ·exact ⟨i+1,x,by simpa using h1,by rw [<-h2];congr 1;omega⟩
   ·rintro ⟨i,x,h1,h2⟩
    cases i with
    | zero=>cases h1;exact .inl h2
    | succ i=>exact .inr ⟨i,x,by simpa using h1,by rw [<-h2];congr 1;omega⟩
theorem Kx {α:Type} {bad:Nat->α->Bool} {l:List α} {k:Nat}:anyI bad l k=false↔ ∀i x,l[i]? =some x->bad (k+i) x=false:=by
 rw [<-cb,PM]
 constructor
 ·intro h i x a
  rw [<-cb]
  exact λhb=>h ⟨i,x,a,hb⟩
 ·rintro h ⟨i,x,a,hb⟩
  rw [h i x a] at hb;cases hb
theorem D9 {α:Type} {f:List IV->Option SR} {vs0:List IV} (enc:Nat->List IV) (bad:Nat->α->Bool) (c:Nat) (b:List IV) (d:Nat) (a:List IV) (l:List α) (h0:vs0=enc 0) (hl:l.length < rounds)
  (hs: ∀i x,l[i]? =some x->f (enc i)=some (if bad i x=true then .done c b else .next (enc (i+1)))) (he:f (enc l.length)=some (.done d a)):
  iter rounds f vs0=some (if anyI bad l 0=true then (c,b) else (d,a)):=by
 rw [EC (vs0:=vs0) (λi (_:Unit)=>enc i) (λi _ x=>if bad i x=true then .inr (c,b) else .inl ()) (λ_=>(d,a)) (λ_ _=>True) l () h0 hl trivial (λi s x e _=>⟨λ_ _=>trivial,by rw [hs i x e];split<;>rfl⟩) (λ_ _=>he)]
 have key: ∀(l:List α) (k:Nat),JD (λi (_:Unit) x=>if bad i x=true then .inr (c,b) else .inl ()) (λ_=>(d,a)) l k ()=if anyI bad l k=true then (c,b) else (d,a):=by
  intro l
  induction l with
  | nil=>intro k;rfl
  | cons x l ih=>
    intro k
    simp only [JD,anyI]
    by_cases h:bad k x=true
    ·simp [h]
    ·simp only [h,if_false,a2,bO]
     exact ih (k+1)
 rw [key l 0]
theorem kC {α a:Type} {f:List IV->Option SR} {vs0:List IV} (enc:Nat->a->List IV) (g:a->α->a) (b:Nat) (out:a->List IV) (I:Nat->a->Prop) (l:List α) (s:a) (h0:vs0=enc 0 s) (hl:l.length < rounds) (c:I 0 s)
  (hs: ∀i s x,l[i]? =some x->I i s->I (i+1) (g s x)/\f (enc i s)=some (.next (enc (i+1) (g s x)))) (he: ∀s,I l.length s->f (enc l.length s)=some (.done b (out s))):
  iter rounds f vs0=some (b,out (l.foldl g s)):=by
 rw [EC (vs0:=vs0) enc (λ_ s x=> .inl (g s x)) (λs=>(b,out s)) I l s h0 hl c (λi s x d c=>⟨λh e=>by cases e;exact (hs i s x d c).1,(hs i s x d c).2⟩) he]
 congr 1
 have key: ∀(l:List α) (k:Nat) (s:a),JD (λ_ s x=> .inl (g s x)) (λs=>(b,out s)) l k s=(b,out (l.foldl g s)):=by
  intro l
  induction l with
  | nil=>intro k s;rfl
  | cons x l ih=>intro k s;exact ih (k+1) (g s x)
 exact key l 0 s
end Go.AM
namespace Go.AM
theorem aO:rounds=1000000:=rfl
structure Mark where
 r:Int
 c:Int
 deriving DecidableEq
def Kk (m:Mark):List IV:=[.int .i64 m.r,.int .i64 m.c]
abbrev aL (l:List Mark):IV:= .lst (l.map Kk)
theorem yb {l:List Mark} {i:Nat} {x:Mark} (h:l[i]? =some x):i < l.length/\aE (aL l) (.int .i64 (i:Int)) 2=some i/\eV (aL l) i 0 2=some [.int .i64 x.r,.int .i64 x.c]/\cV (aL l) i 0=some (.int .i64 x.r)/\cV (aL l) i 1=some (.int .i64 x.c)/\bP l.length (.int .i64 (i:Int))=some i:=
 ⟨(ad.1 h).1,ea h rfl (by decide),qG h rfl,bX h,bX h,eb (ad.1 h).1⟩
theorem Z1 {l:List Mark} {i:Nat} {x:Mark} (h:l[i]? =some x) (c:Int):pK (aL l) i 1 [.int .i64 c]=some (aL (l.set i ⟨x.r,c⟩)):=by
 simp only [pK,bf,h,a8,ab,Kk,dd,List.length_nil]
 rw [if_pos (by decide)]
 simp only [aL,List.map_set]
 rfl
def Zy (x:Int):List IV:=[.int .i64 x]
abbrev bT (l:List Int):IV:= .lst (l.map Zy)
theorem oT {l:List Int} {i:Nat} {x:Int} (h:l[i]? =some x):i < l.length/\aE (bT l) (.int .i64 (i:Int)) 1=some i/\eV (bT l) i 0 1=some [.int .i64 x]/\cV (bT l) i 0=some (.int .i64 x)/\bP l.length (.int .i64 (i:Int))=some i:=
 ⟨(ad.1 h).1,ea h rfl (by decide),qG h rfl,bX h,eb (ad.1 h).1⟩
def PK {α:Type} (p:α->Bool) (l:List α):Int:=match l.findIdx? p with | some i=>(i:Int) | none=> -1
theorem Bd {α:Type} {p:α->Bool} {l:List α} (h:l.findIdx? p=none):PK p l= -1:=by simp [PK,h]
theorem Ba {α:Type} {p:α->Bool} {l:List α} {i:Nat} (h:l.findIdx? p=some i):PK p l=(i:Int):=by simp [PK,h]
theorem Rq {α:Type} {p:α->Bool} {l:List α}:(0<=PK p l)↔l.any p=true:=by
 unfold PK
 cases h:l.findIdx? p with
 | none=>
   simp only [List.findIdx?_eq_none_iff] at h
   constructor
   ·intro h0;simp at h0
   ·intro h0
    obtain ⟨x,a,hp⟩:=bC.1 h0
    rw [h x a] at hp;cases hp
 | some i=>
   simp only [Int.natCast_nonneg,true_iff]
   obtain ⟨hi,hp,_⟩:=bd.1 h
   exact bC.2 ⟨l[i],List.getElem_mem hi,hp⟩
theorem uT {α:Type} {p:α->Bool} {l:List α} {i:Nat} (h:l.findIdx? p=some i): ∃x,l[i]? =some x/\p x=true:=by
 obtain ⟨hi,hp,_⟩:=bd.1 h
 exact ⟨l[i],ao hi,hp⟩
theorem tT {C:IV->List Nat->List (List IV)->Option (List IV)} {b:IV} {p:Mark->Bool} {l:List Mark} (hl:l.length < 2 ^ 16) (c: ∀x∈l,C b [1] [Kk x]=some [.bool (p x)]):
  aV C (aL l) b=some [.int .i64 (PK p l)]:=by
 unfold aV
 simp only [aw,ab]
 rw [k9 (vs0:=[IV.int .i64 0]) (λi=>[IV.int .i64 (i:Int)]) p 1 (λi=>[IV.int .i64 (i:Int)]) 0 [] l rfl (by have:=aO;omega)]
 ·unfold PK
  cases l.findIdx? p<;>simp
 ·intro i x a
  have hi:i < l.length:=(ad.1 a).1
  have hc:=c x (b2 a)
  unfold ig
  unfold Kk at hc
  simp [yb a,hc,dc,au (show i < 2 ^ 62 by omega)]
  split<;>rfl
 ·unfold ig
  simp
def getM:List Mark->Int->Int
 | [],_=>0
 | x::l,r=>if x.r=r then x.c else getM l r
def Tl (r:Int) (x:Mark):Bool:=decide (x.r=r)
def Uh (v:List Mark) (r:Int):Bool:=v.any (Tl r)
def DJ:List Mark->Int->Int->List Mark
 | [],_,_=>[]
 | x::l,c,r=>if x.r=r then ⟨x.r,max x.c c⟩::l else x::DJ l c r
def Ew:List Mark->Int->Int->List Mark
 | [],c,r=>[⟨r,c⟩]
 | x::l,c,r=>if r < x.r then ⟨r,c⟩::x::l else x::Ew l c r
def kH (v:List Mark) (c r:Int):List Mark:=if Uh v r=true then DJ v c r else if c<=0 then v else Ew v c r
def Aa (a b:List Mark):Bool:= !a.any λx=>decide (getM b x.r < getM a x.r)
def XS (v:List Mark):Bool:= !anyI (λi x=>decide (x.r < 1)||decide (255 < x.r)||decide (x.c < 1)||decide (4611686018427387903 < x.c)||(decide (0 < i)&&decide (x.r<=(v.getD (i - 1) x).r))) v 0
theorem R8 {r:Int}: ∀(l:List Mark),getM l r=match l.findIdx? (Tl r) with | some i=>(l.getD i ⟨0,0⟩).c | none=>0
 | []=>rfl
 | x::l=>by
   simp only [getM,bM,Tl,decide_eq_true_eq]
   by_cases h:x.r=r
   ·simp [h]
   ·simp only [h,if_false]
    rw [R8 l]
    cases l.findIdx? (Tl r)<;>simp
theorem YC {c r:Int}: ∀(l:List Mark) (i:Nat) (x:Mark),l.findIdx? (Tl r)=some i->l[i]? =some x->DJ l c r=l.set i ⟨x.r,max x.c c⟩
 | [],i,x,h,_=>by simp at h
 | y::l,i,x,h,b=>by
   simp only [bM,Tl,decide_eq_true_eq] at h
   by_cases a:y.r=r
   ·simp only [a,if_true,Option.some.injEq] at h
    subst h
    cases b
    simp [DJ,a]
   ·simp only [a,if_false] at h
    obtain ⟨j,hj,rfl⟩:=cc.1 h
    simp only [DJ,a,if_false,List.set_cons_succ]
    rw [YC l j x hj (by simpa using b)]
theorem Yt {c r:Int}: ∀(l:List Mark),Ew l c r=l.take ((l.findIdx? λx=>decide (r < x.r)).getD l.length)++[⟨r,c⟩]++l.drop ((l.findIdx? λx=>decide (r < x.r)).getD l.length)
 | []=>rfl
 | x::l=>by
   simp only [Ew,bM,decide_eq_true_eq]
   by_cases h:r < x.r
   ·simp [h]
   ·simp only [h,if_false]
    rw [Yt l]
    cases l.findIdx? (λx=>decide (r < x.r))<;>simp
theorem zE {l:List Mark} (hl:l.length < 2 ^ 16) (r:Int):ko (aL l) (.int .i64 r)=some [.int .i64 (PK (Tl r) l),.bool (decide (0<=PK (Tl r) l))]:=by
 unfold ko
 rw [tT hl (p:=Tl r)]
 ·simp
 ·intro x _
  show jV (.int .i64 x.r) (.int .i64 x.c) (.ptr [.int .i64 r] 0)=_
  unfold jV
  simp [iI,Tl]
theorem xe {l:List Mark} (hl:l.length < 2 ^ 16) (r:Int):lY (aL l) (.int .i64 r)=some [.int .i64 (getM l r)]:=by
 unfold lY
 rw [zE hl,R8]
 cases h:l.findIdx? (Tl r) with
 | none=>simp [Bd h]
 | some i=>
   obtain ⟨x,b,_⟩:=uT h
   have a:l.getD i ⟨0,0⟩=x:=by rw [aB,b];rfl
   simp only [a]
   simp [Ba h,yb b,bj]
theorem uL {l:List Int} (hl:l.length < 2 ^ 16) (n:Int):fJ (.int .i64 n) (bT l)=some [.int .i64 (l.foldl max n)]:=by
 unfold fJ
 simp only [aw,ab]
 rw [kC (vs0:=[IV.int .i64 n,.int .i64 0]) (λi (n:Int)=>[IV.int .i64 n,.int .i64 (i:Int)]) (λn x=>max n x) 0 (λn=>[.int .i64 n]) (λ_ _=>True) l n rfl (by have:=aO;omega) trivial]
 ·simp
 ·intro i s x a _
  have hi:i < l.length:=(ad.1 a).1
  refine ⟨trivial,?_⟩
  unfold o5
  simp [oT a,au (show i < 2 ^ 62 by omega)]
 ·intro s _
  unfold o5
  simp
theorem Ia {l:List Mark} (hl:l.length < 2 ^ 16) {i:Nat} (hi:i<=l.length) (m:Mark):dh (aL l) (.int .i64 (i:Int)) (.lst [[.int .i64 m.r,.int .i64 m.c]])=some [aL (l.take i++[m]++l.drop i)]:=by
 unfold dh
 simp only [sI]
 rw [if_pos]
 ·simp [Kk]
 ·refine ⟨by omega,by simp;omega,by simp;omega,rfl⟩
theorem W6 {l:List Mark} (hl:l.length < 2 ^ 16):e9 (aL l)=some [aL l]:=by
 unfold e9
 simp only [tJ]
 rw [if_pos]
 refine ⟨by simp;omega,by simp [Kk,IV.scalar]⟩
theorem zX {l:List Mark} (hl:l.length < 2 ^ 16) (c r:Int):kz (aL l) (.int .i64 c) (.int .i64 r)=some [aL (kH l c r)]:=by
 unfold kz kH Uh
 rw [W6 hl]
 simp only [ab]
 rw [zE hl]
 simp only [ab,ai,af,bj,Rq]
 by_cases h:l.any (Tl r)=true
 ·simp only [h,if_true]
  obtain ⟨i,hi⟩: ∃i,l.findIdx? (Tl r)=some i:=by
   cases hh:l.findIdx? (Tl r) with
   | some i=>exact ⟨i,rfl⟩
   | none=>have:=Rq.2 h;rw [Bd hh] at this;omega
  obtain ⟨x,a,_⟩:=uT hi
  rw [Ba hi,YC l i x hi a]
  have b:=uL (l:=[c]) (by simp) x.c
  simp only [bT,Zy,List.map_cons,List.map_nil,bR,List.foldl_nil] at b
  simp [yb a,b,Z1 a]
 ·simp only [h,if_false,a2]
  simp only [jU,ab,bj]
  split
  ·rfl
  ·rw [tT hl (p:= λx=>decide (r < x.r))]
   ·rw [Yt]
    cases hh:l.findIdx? (λx=>decide (r < x.r)) with
    | none=>
      have:=Ia hl (ek _) ⟨r,c⟩
      simp only at this
      simp [Bd hh,this]
    | some i=>
      obtain ⟨hi,_⟩:=bd.1 hh
      have:=Ia hl (Nat.le_of_lt hi) ⟨r,c⟩
      simp only at this
      simp [Ba hh,this,bj,show ¬((i:Int) < 0) by omega]
   ·intro x _
    show j7 (.int .i64 x.r) (.int .i64 x.c) (.ptr [.int .i64 c,.int .i64 r] 0)=_
    unfold j7
    simp [iI,gr]
end Go.AM
namespace Go.AM
theorem Iq {c r:Int}: ∀(l:List Mark),(DJ l c r).length=l.length
 | []=>rfl
 | x::l=>by simp only [DJ];split<;>simp [Iq l]
theorem H4 {c r:Int}: ∀(l:List Mark),(Ew l c r).length=l.length+1
 | []=>rfl
 | x::l=>by simp only [Ew];split<;>simp [H4 l]
theorem vF {c r:Int} (l:List Mark):(kH l c r).length<=l.length+1:=by
 unfold kH
 split
 ·rw [Iq];omega
 ·split
  ·omega
  ·rw [H4];omega
structure Mv where
 c:Int
 r:Int
 par:Int
 ch:Int
 nm:ByteArray
 rk:Nat
 deriving DecidableEq
def WC (m:Mv):List IV:=[.int .i64 m.c,.int .i64 m.r,.int .i64 m.par,.int .i64 m.ch,.str m.nm,.flt .f64 m.rk]
abbrev aZ (l:List Mv):IV:= .lst (l.map WC)
theorem ab3 {α:Type} {enc:α->List IV} {l:List α} {i n:Nat} {x:α} (h:l[i]? =some x) (hs:n<=(enc x).length):eV (.lst (l.map enc)) i 0 n=some ((enc x).take n):=by
 simp only [eV,bf,h,a8,ab,bm,cd]
 rw [if_pos (by omega)]
theorem AY {l:List Mv} {i:Nat} {x:Mv} (h:l[i]? =some x):i < l.length/\aE (aZ l) (.int .i64 (i:Int)) 6=some i/\eV (aZ l) i 0 6=some [.int .i64 x.c,.int .i64 x.r,.int .i64 x.par,.int .i64 x.ch,.str x.nm,.flt .f64 x.rk]/\eV (aZ l) i 0 2=some [.int .i64 x.c,.int .i64 x.r]/\
  cV (aZ l) i 0=some (.int .i64 x.c)/\cV (aZ l) i 1=some (.int .i64 x.r)/\cV (aZ l) i 2=some (.int .i64 x.par)/\cV (aZ l) i 3=some (.int .i64 x.ch)/\cV (aZ l) i 4=some (.str x.nm)/\cV (aZ l) i 5=some (.flt .f64 x.rk)/\bP l.length (.int .i64 (i:Int))=some i:=
 ⟨(ad.1 h).1,ea h rfl (by decide),qG h rfl,ab3 h (by simp [WC]),bX h,bX h,bX h,bX h,bX h,bX h,eb (ad.1 h).1⟩
def ofM (l:List Mv):List Mark:=l.foldl (λv m=>kH v m.c m.r) []
theorem E1: ∀(l:List Mv) (a:List Mark),(l.foldl (λv m=>kH v m.c m.r) a).length<=a.length+l.length
 | [],a=>by simp
 | x::b,a=>by
   have h1:=E1 b (kH a x.c x.r)
   have h2:=vF (c:=x.c) (r:=x.r) a
   simp only [bR,dd] at h1 ⊢
   omega
theorem Wk {l:List Mv} (hl:l.length < 2 ^ 15):uf (aZ l)=some [aL (ofM l)]:=by
 unfold uf ofM
 simp only [aw,ab]
 rw [kC (vs0:=[.lst [],.int .i64 0]) (λi (v:List Mark)=>[aL v,.int .i64 (i:Int)]) (λv x=>kH v x.c x.r) 0 (λv=>[aL v]) (λi v=>v.length<=i) l [] rfl (by have:=aO;omega) (by simp)]
 ·simp
 ·intro i s x a b
  have hi:i < l.length:=(ad.1 a).1
  have:=vF (c:=x.c) (r:=x.r) s
  refine ⟨by omega,?_⟩
  unfold AH
  simp [AY a,zX (show s.length < 2 ^ 16 by omega),au (show i < 2 ^ 62 by omega)]
 ·intro s _
  unfold AH
  simp
theorem KF {a b:List Mark} (d:a.length < 2 ^ 16) (hb:b.length < 2 ^ 16):na (aL a) (aL b)=some [.bool (Aa a b)]:=by
 unfold na cC
 rw [tT d (p:= λx=>decide (getM b x.r < getM a x.r))]
 ·simp only [ab,af,de,Rq,dR,du,a8,aW]
  congr 3
  unfold Aa
  simp only [Bool.decide_eq_true]
 ·intro x _
  show jZ (.int .i64 x.r) (.int .i64 x.c) (.ptr [aL a] 0) (.ptr [aL b] 0)=_
  unfold jZ
  simp [iI,xe d,xe hb]
theorem xK {v:List Mark} (hv:v.length < 2 ^ 16):dA (aL v)=some [.bool (XS v)]:=by
 unfold dA XS
 simp only [aw,ab]
 rw [D9 (vs0:=[.int .i64 0]) (λi=>[IV.int .i64 (i:Int)]) (λi x=>decide (x.r < 1)||decide (255 < x.r)||decide (x.c < 1)||decide (4611686018427387903 < x.c)||(decide (0 < i)&&decide (x.r<=(v.getD (i - 1) x).r))) 1 [.bool false] 0 [] v rfl (by have:=aO;omega)]
 ·split<;>simp_all
 ·intro i x e
  have hi:i < v.length:=(ad.1 e).1
  unfold xC
  simp only [af,ai,al,aQ,bx,Int.ofNat_lt,yb e,decide_true,ah,ab,bj,au (show i < 2 ^ 62 by omega)]
  by_cases h1:x.r < 1
  ·simp [h1]
  by_cases h2:255 < x.r
  ·simp [h1,h2]
  by_cases a:x.c < 1
  ·simp [h1,h2,a]
  by_cases b:4611686018427387903 < x.c
  ·simp [h1,h2,a,b]
  by_cases d:0 < i
  ·have hp:v[i - 1]? =some (v.getD (i - 1) x):=by
    rw [aB,ao (by omega)];rfl
   simp only [h1,h2,a,b,if_false,show (0:Int) < (i:Int) by omega,d,if_true,sN (show i < 2 ^ 62 by omega) d,ab,yb hp,de,af,bj,decide_false,bO,decide_true,bb,decide_eq_true_eq]
   split<;>rfl
  ·simp [h1,h2,a,b,d,show ¬((0:Int) < (i:Int)) by omega]
 ·unfold xC
  simp
theorem abm {l:List Int} (hl:l.length < 2 ^ 20) (n:Int):b8 1 8 (bT l) (.lst [[.int .i64 n]])=some (bT (l++[n])):=by
 simp only [b8]
 rw [if_pos]
 ·simp [Zy]
 ·refine ⟨by simp;omega,rfl⟩
def Gi (v:List Mark) (n:Int):Int:=v.foldl (λn x=>max n x.c) n
def Yo (v:List Mark) (n r:Int):List IV:=if 4611686018427387903<=Gi v (max 0 n)\/r < 1\/255 < r then [.int .i64 0,.int .i64 0,.bool false] else [.int .i64 (Gi v (max 0 n)+1),.int .i64 r,.bool true]
theorem J9 (v:List Mark): ∀n,n<=Gi v n:=by
 unfold Gi
 induction v with
 | nil=>intro n;exact Int.le_refl _
 | cons x v ih=>intro n;exact Int.le_trans (by omega) (ih (max n x.c))
theorem Ct {v:List Mark} (hv:v.length < 2 ^ 15) (n q r:Int):pt (aL v) (.int .i64 n) (.int .i64 q) (.int .i64 r)=some (Yo v n r):=by
 unfold pt
 simp only [aw,ab]
 rw [kC (vs0:=[.lst [[.int .i64 n]],.int .i64 0]) (λi (l:List Int)=>[bT l,.int .i64 (i:Int)]) (λl x=>l++[x.c]) 0 (λl=>[bT l]) (λi l=>l.length=i+1) v [n] rfl (by have:=aO;omega) rfl]
 ·have a: ∀(v:List Mark) (l:List Int),v.foldl (λl x=>l++[x.c]) l=l++v.map (·.c):=by
   intro v
   induction v with
   | nil=>intro l;simp
   | cons x v ih=>intro l;simp [ih]
  rw [a]
  simp only [ab,aN,af]
  rw [uL (by simp;omega)]
  have f:([n]++v.map (·.c)).foldl max 0=Gi v (max 0 n):=by
   unfold Gi
   simp only [List.singleton_append,bR,List.foldl_map]
  rw [f]
  have e:=J9 v (max 0 n)
  unfold Yo
  simp only [ab,af,de,al,aQ,bj]
  by_cases h1:4611686018427387903<=Gi v (max 0 n)
  ·simp [h1]
  ·simp only [h1,if_false,false_or]
   rw [Ad (by omega) (by omega)]
   by_cases h2:r < 1
   ·simp [h2]
   ·by_cases b:255 < r
    ·simp [h2,b]
    ·simp [h2,b]
 ·intro i s x d g
  have hi:i < v.length:=(ad.1 d).1
  refine ⟨by simp;omega,?_⟩
  unfold vN
  simp [yb d,abm (show s.length < 2 ^ 20 by omega),au (show i < 2 ^ 62 by omega)]
 ·intro s _
  unfold vN
  simp
theorem ZU {l k:List Mark} (hl:l.length < 2 ^ 20) (hk:k.length < 2 ^ 20):b8 2 16 (aL l) (aL k)=some (aL (l++k)):=by
 simp only [b8]
 rw [if_pos]
 ·simp
 ·refine ⟨by simp;omega,by simp [Kk]⟩
theorem J6 {n i:Nat} {k:b1} (h:i<=n):Tk (.int k (i:Int)) n=some i:=by
 simp only [Tk]
 rw [if_pos (by omega)];simp
theorem wD {n i:Nat} {k:b1} (h:i<=n):jt n (some (.int k (i:Int))) none=some (i,n):=by simp [jt,J6 h]
theorem LY {n i:Nat} {k:b1} (h:i<=n):jt n none (some (.int k (i:Int)))=some (0,i):=by simp [jt,J6 h]
end Go.AM
namespace Go.AM
theorem Typed.one_inv {s:Sh} {cs:List IV} (h:Typed [s] cs): ∃c,cs=[c]/\ShOK s c:=by
 match cs,h.1 with
 | [c],_=>exact ⟨c,rfl,h.2 0 s c rfl rfl⟩
theorem Typed.cons_inv {s:Sh} {l:List Sh} {cs:List IV} (h:Typed (s::l) cs): ∃c a,cs=c::a/\ShOK s c/\Typed l a:=by
 match cs,h.1 with
 | c::a,hl=>exact ⟨c,a,rfl,h.2 0 s c rfl rfl,by simpa using hl,λj b c' h1 h2=>h.2 (j+1) b c' (by simpa using h1) (by simpa using h2)⟩
theorem Typed.nil_inv {cs:List IV} (h:Typed [] cs):cs=[]:=List.length_eq_zero_iff.1 h.1
theorem ac4 {cs:List IV} (h:Typed [.int .i64] cs): ∃a,cs=[.int .i64 a]/\ -(2 ^ 63)<=a/\a < 2 ^ 63:=by
 obtain ⟨b,rfl,h0⟩:=h.one_inv
 cases h0 with
 | int k n h1=>
   simp only [Lit.wf,br,decide_eq_true_eq] at h1
   have h1:IntKind.i64.min= -(2 ^ 63):=by rfl
   have h2:IntKind.i64.max=2 ^ 63 - 1:=by rfl
   exact ⟨n,rfl,by omega,by omega⟩
theorem TypedAll.cons_inv {l:List Sh} {L:List (List Sh)} {cs:List (List IV)} (h:TypedAll (l::L) cs): ∃c a,cs=c::a/\Typed l c/\TypedAll L a:=by
 cases h with
 | cons h t=>exact ⟨_,_,rfl,h,t⟩
theorem TypedAll.nil_inv {cs:List (List IV)} (h:TypedAll [] cs):cs=[]:=by cases h;rfl
end Go.AM
namespace Go.AM
structure MayP (v:List Mark):Prop where
 sorted:v.Pairwise λa b=>a.r < b.r
 ok: ∀x∈v,1<=x.r/\x.r<=255/\1<=x.c/\x.c<=4611686018427387903
theorem yH {α:Type} {R:α->α->Prop} (d: ∀a b c,R a b->R b c->R a c) {v:List α} (h: ∀(i:Nat) (hi:i+1 < v.length),R v[i] v[i+1]):v.Pairwise R:=by
 rw [b6]
 intro i j hi hj e
 obtain ⟨k,rfl⟩: ∃k,j=i+1+k:=⟨j - (i+1),by omega⟩
 induction k with
 | zero=>exact h i hj
 | succ k ih=>exact d _ _ _ (ih (by omega) (by omega)) (h (i+1+k) hj)
theorem FR {v:List Mark}:XS v=true↔MayP v:=by
 unfold XS
 rw [b7,Kx]
 constructor
 ·intro h
  refine ⟨yH (λa b c h1 h2=>by omega) λi hi=> ?_,λx d=> ?_⟩
  ·have:=h (i+1) v[i+1] (ao hi)
   simp only [b3,bA,decide_eq_false_iff_not,bm] at this
   have j:=this.2
   have e:v.getD (i+1 - 1) v[i+1]=v[i]:=by
    rw [b4,aB,ao (by omega)];rfl
   rw [e] at j
   omega
  ·obtain ⟨i,hi⟩:=List.getElem?_of_mem d
   have:=h i x hi
   simp only [b3,decide_eq_false_iff_not] at this
   omega
 ·intro h i x d
  have h1:=h.ok x (b2 d)
  simp only [b3,bA,decide_eq_false_iff_not,bm]
  refine ⟨by omega,?_⟩
  by_cases hi:0 < i
  ·refine .inr ?_
   have f:=(ad.1 d).1
   have e:v.getD (i - 1) x=v[i - 1]:=by
    rw [aB,ao (by omega)];rfl
   have:=b6.1 h.sorted (i - 1) i (by omega) f (by omega)
   rw [e]
   have g:v[i]=x:=by have:=(ad.1 d).2;exact this
   rw [g] at this
   omega
  ·exact .inl hi
theorem MayP.tail {x:Mark} {v:List Mark} (h:MayP (x::v)):MayP v:=⟨(a6.1 h.sorted).2,λy a=>h.ok y (a1 _ a)⟩
theorem MayP.nil:MayP []:=⟨.nil,λx a=>by simp at a⟩
theorem getM_none {v:List Mark} {r:Int} (h: ∀x∈v,x.r≠r):getM v r=0:=by
 induction v with
 | nil=>rfl
 | cons x v ih=>rw [getM,if_neg (h x a5)];exact ih λy a=>h y (a1 _ a)
theorem MayP.nonneg {v:List Mark} (h:MayP v) (r:Int):0<=getM v r:=by
 induction v with
 | nil=>exact Int.le_refl _
 | cons x v ih=>
   rw [getM]
   split
   ·have:=h.ok x a5;omega
   ·exact ih h.tail
theorem xG {v:List Mark} {r:Int} (h: ¬(Uh v r=true)): ∀x∈v,x.r≠r:= λx a e=>h (bC.2 ⟨x,a,by simp [Tl,e]⟩)
theorem GM {c r a:Int}: ∀{v:List Mark},Uh v r=true->getM (DJ v c r) a=if a=r then max (getM v r) c else getM v a
 | [],h=>by simp [Uh] at h
 | x::v,h=>by
   by_cases b:x.r=r
   ·simp only [DJ,b,if_true,getM]
    by_cases hr:a=r
    ·simp [hr]
    ·have: ¬r=a:= λe=>hr e.symm
     simp [hr,this]
   ·have hv:Uh v r=true:=by
     simp only [Uh,List.any_cons,Tl,b,decide_false,bO] at h
     exact h
    simp only [DJ,b,if_false,getM]
    by_cases hr:a=r
    ·subst hr
     simp only [b,if_false,if_true]
     rw [GM hv,if_pos rfl]
    ·simp only [hr,if_false]
     rw [GM hv,if_neg hr]
theorem Qc {c r a:Int}: ∀{v:List Mark},(∀x∈v,x.r≠r)->getM (Ew v c r) a=if a=r then c else getM v a
 | [],h=>by
   simp only [Ew,getM]
   by_cases hr:a=r
   ·simp [hr]
   ·have: ¬r=a:= λe=>hr e.symm
    simp [hr,this]
 | x::v,h=>by
   have b:=h x a5
   simp only [Ew]
   split
   ·simp only [getM]
    by_cases hr:a=r
    ·simp [hr]
    ·have: ¬r=a:= λe=>hr e.symm
     simp [hr,this]
   ·simp only [getM]
    rw [Qc λy d=>h y (a1 _ d)]
    by_cases hr:a=r
    ·subst hr;simp [b]
    ·simp [hr]
theorem DM (v:List Mark) (c r a:Int):getM (kH v c r) a=if a=r then max (getM v r) c else getM v a:=by
 unfold kH
 split
 ·rename_i h;exact GM h
 ·rename_i h
  have h0:=getM_none (xG h)
  split
  ·by_cases hr:a=r
   ·subst hr;rw [if_pos rfl,h0];omega
   ·rw [if_neg hr]
  ·rw [Qc (xG h)]
   by_cases hr:a=r
   ·subst hr;rw [if_pos rfl,if_pos rfl,h0];omega
   ·rw [if_neg hr,if_neg hr]
theorem LW {c r:Int}: ∀{v:List Mark} {y:Mark},y∈DJ v c r-> ∃x∈v,x.r=y.r/\(y=x\/(x.r=r/\y.c=max x.c c))
 | [],y,h=>by simp [DJ] at h
 | x::v,y,h=>by
   simp only [DJ] at h
   split at h
   ·rename_i a
    rcases b0.1 h with rfl | h
    ·exact ⟨x,a5,rfl,.inr ⟨a,rfl⟩⟩
    ·exact ⟨y,a1 _ h,rfl,.inl rfl⟩
   ·rcases b0.1 h with rfl | h
    ·exact ⟨y,a5,rfl,.inl rfl⟩
    ·obtain ⟨z,hz,h1,h2⟩:=LW h
     exact ⟨z,a1 _ hz,h1,h2⟩
theorem Lr {c r:Int}: ∀{v:List Mark} {y:Mark},y∈Ew v c r->y∈v\/y=⟨r,c⟩
 | [],y,h=>by simp [Ew] at h;exact .inr h
 | x::v,y,h=>by
   simp only [Ew] at h
   split at h
   ·rcases b0.1 h with rfl | h
    ·exact .inr rfl
    ·exact .inl h
   ·rcases b0.1 h with rfl | h
    ·exact .inl a5
    ·rcases Lr h with h | h
     ·exact .inl (a1 _ h)
     ·exact .inr h
theorem HB {c r:Int}: ∀{v:List Mark},v.Pairwise (λa b=>a.r < b.r)->(DJ v c r).Pairwise λa b=>a.r < b.r
 | [],_=> .nil
 | x::v,h=>by
   obtain ⟨h1,h2⟩:=a6.1 h
   simp only [DJ]
   split
   ·exact a6.2 ⟨h1,h2⟩
   ·refine a6.2 ⟨λy d=> ?_,HB h2⟩
    obtain ⟨z,hz,e,_⟩:=LW d
    rw [<-e];exact h1 z hz
theorem IA {c r:Int}: ∀{v:List Mark},(∀x∈v,x.r≠r)->v.Pairwise (λa b=>a.r < b.r)->(Ew v c r).Pairwise λa b=>a.r < b.r
 | [],_,_=>List.pairwise_singleton _ _
 | x::v,hn,h=>by
   obtain ⟨h1,h2⟩:=a6.1 h
   have e:=hn x a5
   simp only [Ew]
   split
   ·rename_i hr
    refine a6.2 ⟨λy d=> ?_,h⟩
    rcases b0.1 d with rfl | d
    ·exact hr
    ·have:=h1 y d;show r < y.r;omega
   ·refine a6.2 ⟨λy d=> ?_,IA (λy d=>hn y (a1 _ d)) h2⟩
    rcases Lr d with d | rfl
    ·exact h1 y d
    ·show x.r < r;omega
theorem MayP.raise {v:List Mark} (h:MayP v) {c r:Int} (hr:1<=r/\r<=255) (hc:c<=4611686018427387903):MayP (kH v c r):=by
 unfold kH
 split
 ·refine ⟨HB h.sorted,λy a=> ?_⟩
  obtain ⟨x,b,e,h1 | ⟨_,h1⟩⟩:=LW a
  ·subst h1;exact h.ok y b
  ·have:=h.ok x b;rw [<-e,h1];omega
 ·rename_i hh
  split
  ·exact h
  ·refine ⟨IA (xG hh) h.sorted,λy a=> ?_⟩
   rcases Lr a with a | rfl
   ·exact h.ok y a
   ·show 1<=r/\r<=255/\1<=c/\c<=4611686018427387903;omega
theorem XG {a b:List Mark} (e:MayP a) (hb: ∀r,0<=getM b r):Aa a b=true↔ ∀r,getM a r<=getM b r:=by
 unfold Aa
 rw [b7,<-cb,bC]
 constructor
 ·intro h r
  by_cases hh:Uh a r=true
  ·obtain ⟨x,c,hp⟩:=bC.1 hh
   simp only [Tl,decide_eq_true_eq] at hp
   subst hp
   have: ¬(decide (getM b x.r < getM a x.r)=true):= λd=>h ⟨x,c,d⟩
   simp only [decide_eq_true_eq] at this
   omega
  ·rw [getM_none (xG hh)];exact hb r
 ·rintro h ⟨x,_,c⟩
  simp only [decide_eq_true_eq] at c
  have:=h x.r
  omega
theorem Bool.eq_of_iff {a b:Bool} (h:a=true↔b=true):a=b:=by cases a<;>cases b<;>simp_all
def QK (c r:Int):Bool:=decide (1<=c)&&decide (c<=4611686018427387903)&&decide (1<=r)&&decide (r<=255)
end Go.AM
namespace Go.AM
theorem LU (b c d:Bool):ae (.bool b) (λ_=>some [IV.bool c]) (λ_=>some [IV.bool d])=some [IV.bool (cond b c d)]:=by cases b<;>rfl
def lJ (s:ByteArray) (i:Nat):Option Nat:=(s.data.toList[i]?).map (·.toNat)
def HF (s:ByteArray) (i lo hi:Nat):Bool:=match lJ s i with | some b=>decide (lo<=b)&&decide (b<=hi) | none=>false
theorem abW (s:ByteArray) (i:Nat):s[i]? =s.data.toList[i]? :=by
 rw [Array.getElem?_toList]
 unfold getElem?
 rfl
theorem BN (s:ByteArray):s.data.toList.length=s.size:=by rw [Array.length_toList];rfl
theorem GV {s:ByteArray} {i b:Nat} (h:lJ s i=some b):i < s.size/\b < 256:=by
 unfold lJ at h
 obtain ⟨x,a,rfl⟩:=cc.1 h
 exact ⟨by rw [<-BN];exact (ad.1 a).1,x.toNat_lt⟩
theorem HO {s:ByteArray} {i:Nat} (h:i < s.size): ∃b,lJ s i=some b:=by
 unfold lJ
 rw [ao (by rw [BN];exact h)]
 exact ⟨_,rfl⟩
theorem VD {s:ByteArray} {i:Nat} (h:s.size<=i):lJ s i=none:=by
 unfold lJ
 rw [List.getElem?_eq_none (by rw [BN];exact h)]
 rfl
theorem aco (s:ByteArray) (i:Nat):GB (.str s) (.int .i64 (i:Int))=(lJ s i).map λb=> .int .u8 (b:Int):=by
 simp only [GB,Int.toNat_natCast,abW,lJ,Option.map_map]
 rw [if_pos (by omega)]
 rfl
def Z2 (s:ByteArray) (i:Nat):Nat:=
 if HF s i 0 127=true then 1
 else if (HF s i 194 223&&HF s (i+1) 128 191)=true then 2
 else if (HF s (i+2) 128 191&&(HF s i 224 224&&HF s (i+1) 160 191||HF s i 225 236&&HF s (i+1) 128 191||HF s i 238 239&&HF s (i+1) 128 191||HF s i 237 237&&HF s (i+1) 128 159))=true then 3
 else if (HF s (i+2) 128 191&&HF s (i+3) 128 191&&(HF s i 240 240&&HF s (i+1) 144 191||HF s i 241 243&&HF s (i+1) 128 191||HF s i 244 244&&HF s (i+1) 128 143))=true then 4
 else 0
theorem wk {i k:Nat} (h:i+k < 2 ^ 62):aa .add (.int .i64 (i:Int)) (.int .i64 (k:Int))=some (.int .i64 ((i+k:Nat):Int)):=by
 rw [Ad (by omega) (by omega)];rfl
theorem aej {s:ByteArray} {i:Nat}:i+Z2 s i<=s.size\/Z2 s i=0:=by
 have a: ∀{j lo hi:Nat},HF s j lo hi=true->j < s.size:= λ{j lo hi} h=>by
  unfold HF at h
  cases hb:lJ s j with
  | none=>rw [hb] at h;cases h
  | some b=>exact (GV hb).1
 unfold Z2
 split
 ·rename_i h;have:=a h;left;omega
 ·split
  ·rename_i h;simp only [br] at h;have:=a h.2;left;omega
  ·split
   ·rename_i h;simp only [br] at h;have:=a h.1;left;omega
   ·split
    ·rename_i h;simp only [br] at h;have:=a h.1.2;left;omega
    ·right;rfl
def scan (s:ByteArray) (i:Nat):Nat:=if h:i < s.size/\Z2 s i≠0 then scan s (i+Z2 s i) else i
 termination_by s.size - i
 decreasing_by omega
def Gc (s:ByteArray):Bool:=decide (scan s 0=s.size)
def tm (b:Nat):Nat×Nat×Nat×Bool:=
 if b < 128 then (0,128,191,true) else if b < 194 then (0,128,191,false) else if b < 224 then (1,128,191,true)
 else if b < 240 then (if b=224 then (2,160,191,true) else if b=237 then (2,128,159,true) else (2,128,191,true))
 else if b < 245 then (if b=240 then (3,144,191,true) else if b=244 then (3,128,143,true) else (3,128,191,true))
 else (0,128,191,false)
theorem Rc (b:Nat):qS (.int .u8 (b:Int))=some [.int .i64 ((tm b).1:Int),.int .u8 ((tm b).2.1:Int),.int .u8 ((tm b).2.2.1:Int),.bool (tm b).2.2.2]:=by
 unfold qS tm
 simp only [al,dI,ab,bj]
 have c1:((b:Int) < 128)=(b < 128):=propext (by omega)
 have c2:((b:Int) < 194)=(b < 194):=propext (by omega)
 have c3:((b:Int) < 224)=(b < 224):=propext (by omega)
 have c4:((b:Int) < 240)=(b < 240):=propext (by omega)
 have c5:((b:Int) < 245)=(b < 245):=propext (by omega)
 have c6:((b:Int)=224)=(b=224):=propext (by omega)
 have c7:((b:Int)=237)=(b=237):=propext (by omega)
 have a:((b:Int)=240)=(b=240):=propext (by omega)
 have c:((b:Int)=244)=(b=244):=propext (by omega)
 simp only [c1,c2,c3,c4,c5,c6,c7,a,c]
 repeat (first | rfl | split)
def uh:List Nat->Nat->Nat->Bool
 | [],_,_=>true
 | b::l,lo,hi=>decide (lo<=b)&&decide (b<=hi)&&uh l 128 191
def PW (b:Nat):List IV:=[.int .u8 (b:Int)]
theorem Xg {l:List Nat} (hl:l.length < 100) (lo hi:Nat):iter rounds (qC (.int .i64 (l.length:Int)) (.lst (l.map PW))) [.int .u8 (lo:Int),.int .u8 (hi:Int),.int .i64 0]=some (if uh l lo hi=true then (0,[]) else (1,[])):=by
 rw [EC (vs0:=[.int .u8 (lo:Int),.int .u8 (hi:Int),.int .i64 0]) (λi (s:Nat×Nat)=>[IV.int .u8 (s.1:Int),.int .u8 (s.2:Int),.int .i64 (i:Int)]) (λi s b=>if b < s.1\/s.2 < b then .inr (1,[]) else .inl (128,191)) (λ_=>(0,[])) (λ_ _=>True) l (lo,hi) rfl (by have:rounds=1000000:=rfl;omega) trivial]
 ·congr 1
  have key: ∀(l:List Nat) (k lo hi:Nat),JD (λi (s:Nat×Nat) b=>if b < s.1\/s.2 < b then .inr (1,[]) else .inl (128,191)) (λ_=>((0,[]):Nat×List IV)) l k (lo,hi)=if uh l lo hi=true then (0,[]) else (1,[]):=by
   intro l
   induction l with
   | nil=>intro k lo hi;rfl
   | cons b l ih=>
     intro k lo hi
     simp only [JD,uh]
     by_cases h:b < lo\/hi < b
     ·rw [if_pos h]
      have: ¬(decide (lo<=b)&&decide (b<=hi)&&uh l 128 191)=true:=by
       simp only [br,decide_eq_true_eq];omega
      simp only [this,if_false,a2]
     ·rw [if_neg h]
      have h1:lo<=b:=by omega
      have h2:b<=hi:=by omega
      simp only [h1,h2,decide_true,bb]
      exact ih (k+1) 128 191
  exact key l 0 lo hi
 ·intro i s b hb _
  have hi:i < l.length:=(ad.1 hb).1
  refine ⟨λ_ _=>trivial,?_⟩
  unfold qC
  simp only [af,ai,ay,al,aQ,ab,Int.ofNat_lt,hi,decide_true,ah,ea (enc:=PW) (sz:=1) hb rfl (Nat.zero_lt_one),bX (enc:=PW) hb,PW,List.getElem?_cons_zero,bj,au (show i < 2 ^ 62 by omega)]
  by_cases h1:b < s.1
  ·simp [h1]
  ·by_cases h2:s.2 < b
   ·simp [h1,h2]
   ·simp [h1,h2]
 ·intro s _
  unfold qC
  simp
theorem WR (s:ByteArray): ∀i,(s.data.toList.map (·.toNat))[i]? =lJ s i:= λi=>by rw [bf];rfl
theorem abK {s:ByteArray} {i b:Nat} (hb:lJ s i=some b):Z2 s i=if (tm b).2.2.2=true/\(tm b).1 < s.size - i/\uh (((s.data.toList.map (·.toNat)).drop (i+1)).take (tm b).1) (tm b).2.1 (tm b).2.2.1=true then 1+(tm b).1 else 0:=by
 have hi:=(GV hb).1
 have key: ∀(n k:Nat),k<=s.size->s.size - k>=n+1-> ∃c,lJ s k=some c/\((s.data.toList.map (·.toNat)).drop k).take (n+1)=c::((s.data.toList.map (·.toNat)).drop (k+1)).take n:= λn k hk hn=>by
  obtain ⟨c,hc⟩:=HO (s:=s) (i:=k) (by omega)
  refine ⟨c,hc,?_⟩
  have A:k < (s.data.toList.map (·.toNat)).length:=by rw [bx,BN];omega
  rw [b5 A,List.take_succ_cons]
  congr 1
  have:=WR s k
  rw [ao A,hc] at this
  exact Option.some.inj this
 have none_: ∀{k lo hi:Nat},s.size<=k->HF s k lo hi=false:= λ{k lo hi} h=>by unfold HF;rw [VD h]
 have some_: ∀{k c lo hi:Nat},lJ s k=some c->HF s k lo hi=(decide (lo<=c)&&decide (c<=hi)):= λ{k c lo hi} h=>by unfold HF;rw [h]
 unfold Z2 tm
 simp only [some_ hb]
 by_cases h1:b < 128
 ·have e:0 < s.size - i:=by omega
  simp [h1,uh,e,show b<=127 by omega]
 have l: ¬b<=127:=by omega
 by_cases h2:b < 194
 ·have q1: ¬194<=b:=by omega
  have F: ¬224<=b:=by omega
  have G: ¬225<=b:=by omega
  have H: ¬238<=b:=by omega
  have I: ¬237<=b:=by omega
  have r: ¬240<=b:=by omega
  have t: ¬241<=b:=by omega
  have u: ¬244<=b:=by omega
  simp [h1,h2,l,q1,F,G,H,I,r,t,u]
 have q:194<=b:=by omega
 by_cases o:b < 224
 ·have q1:b<=223:=by omega
  have F: ¬224<=b:=by omega
  have G: ¬225<=b:=by omega
  have H: ¬238<=b:=by omega
  have I: ¬237<=b:=by omega
  have r: ¬240<=b:=by omega
  have t: ¬241<=b:=by omega
  have u: ¬244<=b:=by omega
  by_cases hlen:1 < s.size - i
  ·obtain ⟨c1,d,t1⟩:=key 0 (i+1) (by omega) (by omega)
   simp only [ck,bm] at t1
   simp [h1,h2,o,l,q,q1,F,G,H,I,r,t,u,hlen,t1,uh,some_ d]
  ·simp [h1,h2,o,l,q,q1,F,G,H,I,r,t,u,hlen,none_ (show s.size<=i+1 by omega)]
 have C: ¬b<=223:=by omega
 have D:224<=b:=by omega
 by_cases y:b < 240
 ·have r: ¬240<=b:=by omega
  have t: ¬241<=b:=by omega
  have u: ¬244<=b:=by omega
  by_cases hlen:2 < s.size - i
  ·obtain ⟨c1,d,t1⟩:=key 1 (i+1) (by omega) (by omega)
   obtain ⟨c2,p,E⟩:=key 0 (i+1+1) (by omega) (by omega)
   simp only [ck,bm] at E
   simp only [cO,E] at t1
   have a:lJ s (i+2)=some c2:=p
   by_cases f:b=224
   ·subst f
    simp [hlen,t1,uh,some_ d,some_ a,bB,a7,bs]
   ·by_cases g:b=237
    ·subst g
     simp [hlen,t1,uh,some_ d,some_ a,bB,a7,bs]
    ·have v: ¬b<=224:=by omega
     have w:225<=b:=by omega
     have x:b<=239:=by omega
     have m:(b<=236\/238<=b):=by omega
     have U: ¬(237<=b/\b<=237):=by omega
     simp only [h1,h2,o,y,f,g,l,C,q,D,r,t,u,hlen,t1,uh,some_ d,some_ a,v,w,x,if_true,if_false,decide_true,decide_false,bb,c0,cl,cv,a2,bO,c8,true_and]
     rcases m with m | m
     ·have J: ¬238<=b:=by omega
      have K: ¬(237<=b):=by omega
      simp [m,J,K,bB,a7,bs]
     ·have J: ¬b<=236:=by omega
      have K: ¬(b<=237):=by omega
      simp [m,J,K,bB,a7,bs]
  ·have z:=none_ (lo:=128) (hi:=191) (show s.size<=i+2 by omega)
   simp only [h1,h2,o,y,l,C,q,D,r,t,u,z,if_true,if_false,decide_true,decide_false,bb,c0,cl,cv,a2,bO,c8,true_and]
   by_cases f:b=224
   ·simp [f,hlen]
   ·by_cases g:b=237
    ·simp [g,hlen]
    ·simp [f,g,hlen]
 have N:240<=b:=by omega
 have O: ¬b<=224:=by omega
 have P: ¬b<=236:=by omega
 have Q: ¬b<=239:=by omega
 have R: ¬b<=237:=by omega
 have S: ¬b=224:=by omega
 by_cases L:b < 245
 ·by_cases hlen:3 < s.size - i
  ·obtain ⟨c1,d,t1⟩:=key 2 (i+1) (by omega) (by omega)
   obtain ⟨c2,p,E⟩:=key 1 (i+1+1) (by omega) (by omega)
   obtain ⟨c3,M,T⟩:=key 0 (i+1+1+1) (by omega) (by omega)
   simp only [ck,bm] at T
   simp only [cO,T] at E
   simp only [cO,E] at t1
   have a:lJ s (i+2)=some c2:=p
   have j:lJ s (i+3)=some c3:=M
   by_cases f:b=240
   ·subst f
    simp [hlen,t1,uh,some_ d,some_ a,some_ j,bB,a7,bs]
   ·by_cases g:b=244
    ·subst g
     simp [hlen,t1,uh,some_ d,some_ a,some_ j,bB,a7,bs]
    ·have v: ¬b<=240:=by omega
     have w:241<=b:=by omega
     have x:b<=243:=by omega
     have m: ¬244<=b:=by omega
     simp [h1,h2,o,y,L,f,g,l,C,q,D,N,O,P,Q,R,hlen,t1,uh,some_ d,some_ a,some_ j,v,w,x,m,bB,a7,bs]
  ·have z:=none_ (lo:=128) (hi:=191) (show s.size<=i+3 by omega)
   simp only [h1,h2,o,y,L,l,C,q,D,N,O,P,Q,R,z,if_true,if_false,decide_true,decide_false,bb,c0,cl,cv,a2,bO,c8,true_and]
   by_cases f:b=240
   ·simp [f,hlen]
   ·by_cases g:b=244
    ·simp [g,hlen]
    ·simp [f,g,hlen]
 ·have v: ¬b<=240:=by omega
  have w: ¬b<=243:=by omega
  have x: ¬b<=244:=by omega
  simp [h1,h2,o,y,L,l,C,q,D,N,O,P,Q,R,v,w,x]
theorem On (s:ByteArray) (a b:Nat):(s.extract a b).data.toList.map (·.toNat)=((s.data.toList.map (·.toNat)).drop a).take (b - a):=by
 have:(s.extract a b).data=s.data.extract a b:=by rw [ByteArray.data_extract]
 rw [this,Array.toList_extract,List.extract_eq_take_drop,dq,ds]
theorem Wq {s:ByteArray} (hs:s.size < 2 ^ 40) {n i:Nat} (hn:n < 2 ^ 40) (hi:i < s.size):kl (.str s) [.int .i64 (n:Int),.int .i64 (i:Int)]=some (if Z2 s i≠0 then .next [.int .i64 ((n+1:Nat):Int),.int .i64 ((i+Z2 s i:Nat):Int)] else .done 0 [.int .i64 (n:Int),.int .i64 (i:Int)]):=by
 obtain ⟨b,hb⟩:=HO hi
 have r:=(GV hb).2
 have hr:(tm b).1<=3:=by unfold tm;repeat (first | split | simp)
 rw [abK hb]
 unfold kl
 have c:aa .sub (.int .i64 (s.size:Int)) (.int .i64 (i:Int))=some (.int .i64 ((s.size - i:Nat):Int)):=by
  rw [pC (by omega) (by omega)];congr 2;omega
 simp only [sK,ai,af,ay,az,al,Int.ofNat_lt,ab,hi,decide_true,ah,aco,hb,a8,Rc,aW,c,jU,Int.ofNat_le,dc,b7]
 generalize u:tm b=x at hr ⊢
 obtain ⟨rest,lo,e,is⟩:=x
 simp only at hr ⊢
 cases is with
 | false=>simp
 | true=>
   simp only [Bool.true_eq_false,if_false,ab,af,true_and]
   by_cases hle:s.size - i<=rest
   ·have: ¬rest < s.size - i:=by omega
    simp [hle,this]
   ·have f:rest < s.size - i:=by omega
    have k:aa .add (.int .i64 (i:Int)) (.int .i64 1)=some (.int .i64 ((i+1:Nat):Int)):=au (by omega)
    have m:aa .add (.int .i64 ((i+1:Nat):Int)) (.int .i64 (rest:Int))=some (.int .i64 ((i+1+rest:Nat):Int)):=wk (by omega)
    have o:aa .add (.int .i64 1) (.int .i64 (rest:Int))=some (.int .i64 ((1+rest:Nat):Int)):=wk (i:=1) (by omega)
    have p:aa .add (.int .i64 (i:Int)) (.int .i64 ((1+rest:Nat):Int))=some (.int .i64 ((i+(1+rest):Nat):Int)):=wk (by omega)
    have q:aa .add (.int .i64 (n:Int)) (.int .i64 1)=some (.int .i64 ((n+1:Nat):Int)):=au (by omega)
    have j: ∀(n i:Nat),i<=n->Tk (.int .i64 (i:Int)) n=some i:= λn i h=>by
     simp only [Tk];rw [if_pos (by omega)];simp
    have g:fy (.str s) (some (.int .i64 ((i+1:Nat):Int))) (some (.int .i64 ((i+1+rest:Nat):Int)))=some (.str (s.extract (i+1) (i+1+rest))):=by
     simp only [fy,jt,j s.size (i+1+rest) (by omega),j (i+1+rest) (i+1) (by omega),ab]
    generalize hl:((s.data.toList.map (·.toNat)).drop (i+1)).take rest=l
    have t:l.length=rest:=by
     rw [<-hl];simp only [List.length_take,List.length_drop,bx,BN];omega
    have d:Vv (.str (s.extract (i+1) (i+1+rest)))=some (.lst (l.map PW)):=by
     simp only [Vv]
     congr 2
     have h1:(s.extract (i+1) (i+1+rest)).data.toList.map (λb=>[IV.int .u8 (b.toNat:Int)])=((s.extract (i+1) (i+1+rest)).data.toList.map (·.toNat)).map PW:=by
      rw [List.map_map];rfl
     rw [h1,On,show i+1+rest - (i+1)=rest by omega,hl]
    simp only [decide_eq_true_eq,hle,if_false,k,m,g,d,ab,aw,bx,Xg (show l.length < 100 by omega),decide_false,a2,f,true_and]
    by_cases a:uh l lo e=true
    ·simp only [a,if_true,aN,o,p,q,ab]
     rw [if_pos (by omega)]
     rfl
    ·simp only [a,if_false,acb,a2]
     simp
theorem MM {s:ByteArray} (hs:s.size < 2 ^ 39): ∀(m n i:Nat),i<=s.size->n<=i->s.size - i < m-> ∃k:Nat,iter m (kl (.str s)) [.int .i64 (n:Int),.int .i64 (i:Int)]=some (0,[.int .i64 (k:Int),.int .i64 (scan s i:Int)])
 | 0,n,i,_,_,h=>by omega
 | m+1,n,i,hi,hn,hm=>by
   by_cases h:i < s.size
   ·simp only [iter,Wq (show s.size < 2 ^ 40 by omega) (show n < 2 ^ 40 by omega) h,ab]
    rw [scan]
    by_cases h2:Z2 s i=0
    ·have: ¬(i < s.size/\Z2 s i≠0):= λhh=>hh.2 h2
     rw [dif_neg this]
     simp only [h2,ne_eq,not_true_eq_false,if_false]
     exact ⟨n,rfl⟩
    ·have hle:=aej (s:=s) (i:=i)
     rw [dif_pos ⟨h,h2⟩]
     simp only [ne_eq,h2,not_false_eq_true,if_true]
     exact MM hs m (n+1) (i+Z2 s i) (by omega) (by omega) (by omega)
   ·have hf:kl (.str s) [.int .i64 (n:Int),.int .i64 (i:Int)]=some (.done 0 [.int .i64 (n:Int),.int .i64 (i:Int)]):=by
     unfold kl
     simp only [sK,ai,af,al,Int.ofNat_lt,ab,h,decide_false,ag]
    rw [scan,dif_neg (λhh=>h hh.1)]
    exact ⟨n,by simp only [iter,hf,ab]⟩
theorem CZ {s:ByteArray} (hs:s.size < 2 ^ 19):jJ (.str s)=some [.bool (Gc s)]:=by
 unfold jJ sk Gc
 obtain ⟨k,hk⟩:=MM (s:=s) (by omega) rounds 0 0 (eg _) (ek _) (by have:rounds=1000000:=rfl;omega)
 rw [show (IV.int .i64 0)= .int .i64 ((0:Nat):Int) from rfl,hk]
 simp only [ab,aN,af,ai,wL,du,a8,sK,dI,dR]
 congr 3
 exact decide_eq_decide.2 (by omega)
end Go.AM
namespace Go.AM
def xb {α:Type} (R:α->α->Bool):List α->Bool
 | []=>true
 | [_]=>true
 | x::y::l=>R x y&&xb R (y::l)
theorem Fv {α:Type} {R:α->α->Bool}: ∀{l:List α},xb R l=true↔ ∀(i:Nat) (x y:α),l[i]? =some x->l[i+1]? =some y->R x y=true
 | []=>by simp [xb]
 | [x]=>by simp [xb]
 | x::y::l=>by
   simp only [xb,br]
   rw [Fv]
   constructor
   ·rintro ⟨h1,h2⟩ i a b c hb
    cases i with
    | zero=>cases c;cases hb;exact h1
    | succ i=>exact h2 i a b (by simpa using c) (by simpa using hb)
   ·intro h
    exact ⟨h 0 x y rfl rfl,λi a b c hb=>h (i+1) a b (by simpa using c) (by simpa using hb)⟩
theorem abx {α:Type} {R:α->α->Bool} {l:List α}:anyI (λi x=>decide (0 < i)&& !R (l.getD (i - 1) x) x) l 0= !xb R l:=by
 have key:anyI (λi x=>decide (0 < i)&& !R (l.getD (i - 1) x) x) l 0=false↔xb R l=true:= ?_
 ·cases h1:anyI (λi x=>decide (0 < i)&& !R (l.getD (i - 1) x) x) l 0<;>cases h2:xb R l<;>simp_all
 rw [Kx,Fv]
 constructor
 ·intro h i x y a d
  have:=h (i+1) y d
  simp only [bm,Nat.lt_add_left_iff_pos,bA,decide_eq_false_iff_not,c9,b4] at this
  have b:l.getD i y=x:=by rw [aB,a];rfl
  rw [b] at this
  rcases this with h1 | h1
  ·omega
  ·exact h1
 ·intro h i x a
  simp only [bm,bA,decide_eq_false_iff_not,c9]
  cases i with
  | zero=>exact .inl (by omega)
  | succ i=>
    have c:=(ad.1 a).1
    have hp:l[i]? =some l[i]:=ao (by omega)
    have b:l.getD i x=l[i]:=by rw [aB,hp];rfl
    rw [b4,b]
    exact .inr (h i _ _ hp a)
def befB (c r c' a:Int):Bool:=decide (c < c')||decide (c=c')&&decide (r < a)
def Aq (a b:Mv):Bool:=befB a.c a.r b.c b.r
def V5 (ch par:Int) (nm:ByteArray):Bool:=decide (1<=ch)&&decide (ch<=2147483647)&&decide (0<=par)&&decide (par<=2147483647)&&decide (nm.size<=64)&&Gc nm
def oneV (m:Mv):Bool:=QK m.c m.r&&V5 m.ch m.par m.nm
def mayV (l:List Mv):Bool:=decide (l.length<=2000)&&(l.all oneV&&xb Aq l)
theorem zP (ch par:Int) (nm:ByteArray) (x:IV):lp (.int .i64 ch) (.int .i64 par) (.str nm) x=some [.bool (V5 ch par nm)]:=by
 unfold lp V5
 simp only [de,jU,sK,ab,bj]
 by_cases h1:1<=ch
 ·by_cases h2:ch<=2147483647
  ·by_cases a:0<=par
   ·by_cases b:par<=2147483647
    ·by_cases c:nm.size<=64
     ·have:((nm.size:Int)<=64):=by omega
      simp [h1,h2,a,b,c,this,CZ (show nm.size < 2 ^ 19 by omega)]
     ·have: ¬((nm.size:Int)<=64):=by omega
      simp [h1,h2,a,b,c,this]
    ·simp [h1,h2,a,b]
   ·simp [h1,h2,a]
  ·simp [h1,h2]
 ·simp [h1]
theorem EZ (m:Mv):oo (.int .i64 m.c) (.int .i64 m.r) (.int .i64 m.par) (.int .i64 m.ch) (.str m.nm) (.flt .f64 m.rk)=some [.int .i64 m.ch,.int .i64 m.par,.str m.nm,.flt .f64 m.rk]:=by
 unfold oo;simp
theorem xw (m:Mv):lj (.int .i64 m.c) (.int .i64 m.r) (.int .i64 m.par) (.int .i64 m.ch) (.str m.nm) (.flt .f64 m.rk)=some [.bool (oneV m)]:=by
 unfold lj oneV QK
 simp only [EZ,de,jU,ab,af,ai,ay,az,zP,bj]
 by_cases h1:1<=m.c
 ·by_cases h2:m.c<=4611686018427387903
  ·by_cases a:1<=m.r
   ·by_cases b:m.r<=255
    ·simp [h1,h2,a,b]
    ·simp [h1,h2,a,b]
   ·simp [h1,h2,a]
  ·simp [h1,h2]
 ·simp [h1]
theorem Qb: ∀{l:List Mv} {v:List Mark},MayP v->(∀m∈l,1<=m.c/\m.c<=4611686018427387903/\1<=m.r/\m.r<=255)->MayP (l.foldl (λv m=>kH v m.c m.r) v)
 | [],v,hv,_=>hv
 | m::l,v,hv,h=>by
   have hm:=h m a5
   exact Qb (l:=l) (hv.raise (c:=m.c) (r:=m.r) hm.2.2 hm.2.1) λx a=>h x (a1 _ a)
theorem Lv (r:Int): ∀(l:List Mv) (v:List Mark),getM (l.foldl (λv m=>kH v m.c m.r) v) r=l.foldl (λn m=>if r=m.r then max n m.c else n) (getM v r)
 | [],v=>rfl
 | m::l,v=>by
   simp only [bR]
   rw [Lv r l,DM]
   congr 1
   split
   ·rename_i e;rw [e]
   ·rfl
def supV (r:Int) (l:List Mv) (n:Int):Int:=l.foldl (λn m=>if r=m.r then max n m.c else n) n
theorem abw {l:List Mv} {i:Nat} (hi:i<=l.length):fQ 6 (aZ l) none (some (.int .i64 (i:Int)))=some (aZ (l.take i)):=by
 simp only [fQ]
 rw [if_pos (by simp [WC])]
 simp only [bx,LY hi,ab,cd,Nat.sub_zero]
 rw [<-dq]
theorem aaS {l:List Mv} {i:Nat} (hi:i<=l.length):fQ 6 (aZ l) (some (.int .i64 (i:Int))) none=some (aZ (l.drop i)):=by
 simp only [fQ]
 rw [if_pos (by simp [WC])]
 simp only [bx,wD hi,ab]
 rw [<-ds,List.take_of_length_le (by simp)]
theorem V4: ∀(v:List Mark) (n:Int),∀x∈v,x.c<=Gi v n
 | [],n,x,h=>by simp at h
 | y::v,n,x,h=>by
   rcases b0.1 h with rfl | h
   ·have:=J9 v (max n x.c)
    simp only [Gi,bR] at this ⊢
    omega
   ·exact V4 v (max n y.c) x h
theorem Tn {v:List Mark} {n:Int} (h0:0<=n) (r:Int):getM v r<=Gi v n:=by
 rw [R8]
 cases h:v.findIdx? (Tl r) with
 | none=>have:=J9 v n;simp only;omega
 | some i=>
   obtain ⟨x,b,_⟩:=uT h
   have a:v.getD i ⟨0,0⟩=x:=by rw [aB,b];rfl
   simp only [a]
   exact V4 v n x (b2 b)
end Go.AM
