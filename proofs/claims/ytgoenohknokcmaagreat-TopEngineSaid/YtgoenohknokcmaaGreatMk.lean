/- Plain lemmas on the abstract machine's operations and loops. -/
import Derived.Test.YtgoenohknokcmaaGreatAa
import Derived.Test.YtgoenohknokcmaaGreatSh
import Derived.Test.YtgoenohknokcmaaGreatAd
set_option linter.unusedVariables false
set_option linter.unusedSimpArgs false
namespace Go.AM
@[simp] theorem ag (x:IV) (l:List IV):nth (x::l) 0=x:=rfl
@[simp] theorem W7 (x:IV) (l:List IV) (n:Nat):nth (x::l) (n+1)=nth l n:=by simp [nth]
@[simp] theorem aC (x y:IV) (l:List IV):nth (x::y::l) 1=y:=rfl
@[simp] theorem bV (x y z:IV) (l:List IV):nth (x::y::z::l) 2=z:=rfl
@[simp] theorem bw (x y z a:IV) (l:List IV):nth (x::y::z::a::l) 3=a:=rfl
@[simp] theorem eJ (x y z a b:IV) (l:List IV):nth (x::y::z::a::b::l) 4=b:=rfl
@[simp] theorem eF (x y z a b c:IV) (l:List IV):nth (x::y::z::a::b::c::l) 5=c:=rfl
@[simp] theorem BF (x y z a b c d:IV) (l:List IV):nth (x::y::z::a::b::c::d::l) 6=d:=rfl
@[simp] theorem sd (x y z a b c d e:IV) (l:List IV):nth (x::y::z::a::b::c::d::e::l) 7=e:=rfl
@[simp] theorem aj {R:Type} (t e:Unit->Option R):af (.bool true) t e=t ():=rfl
@[simp] theorem aF {R:Type} (t e:Unit->Option R):af (.bool false) t e=e ():=rfl
theorem aQ {R:Type} (p:Prop) [Decidable p] (t e:Unit->Option R):af (.bool (decide p)) t e=if p then t () else e ():=by
 by_cases h:p<;>simp [h,af]
theorem bE {R:Type} (b:Bool) (t e:Unit->Option R):af (.bool b) t e=if b=true then t () else e ():=by cases b<;>rfl
@[simp] theorem aJ (k:IntKind) (a b:Int):aa .lss (.int k a) (.int k b)=some (.bool (decide (a < b))):=by simp [aa,il]
@[simp] theorem sB (k:IntKind) (a b:Int):aa .leq (.int k a) (.int k b)=some (.bool (decide (a<=b))):=by simp [aa,il]
@[simp] theorem sP (k:IntKind) (a b:Int):aa .gtr (.int k a) (.int k b)=some (.bool (decide (b < a))):=by simp [aa,il]
@[simp] theorem sF (k:IntKind) (a b:Int):aa .geq (.int k a) (.int k b)=some (.bool (decide (b<=a))):=by simp [aa,il]
@[simp] theorem nW (k:IntKind) (a b:Int):aa .eql (.int k a) (.int k b)=some (.bool (decide (a=b))):=by
  simp only [aa,il,if_true];congr 2
@[simp] theorem vB (k:IntKind) (a b:Int):aa .neq (.int k a) (.int k b)=some (.bool (decide (a≠b))):=by
  simp only [aa,il,if_true,bne]
  congr 2
  by_cases h:a=b<;>simp [h]
@[simp] theorem aat (a b:Bool):Hd .eql (.bool a) (.bool b)=some (.bool (a==b)):=rfl
@[simp] theorem UC (a b:Bool):Hd .neq (.bool a) (.bool b)=some (.bool !(a==b)):=rfl
@[simp] theorem jn (b:Bool):rI .not (.bool b)=some (.bool !b):=rfl
theorem wrap64 {a:Int} (h1: -(2 ^ 63)<=a) (h2:a < 2 ^ 63):IntKind.i64.wrap a=a:=by
 rw [IntKind.wrap_i64];omega
theorem HK {a b:Int} (h1: -(2 ^ 63)<=a+b) (h2:a+b < 2 ^ 63):aa .add (.int .i64 a) (.int .i64 b)=some (.int .i64 (a+b)):=by
 simp only [aa,il,if_true,wrap64 h1 h2]
theorem pH {a b:Int} (h1: -(2 ^ 63)<=a - b) (h2:a - b < 2 ^ 63):aa .sub (.int .i64 a) (.int .i64 b)=some (.int .i64 (a - b)):=by
 simp only [aa,il,if_true,wrap64 h1 h2]
theorem aL {i:Nat} (h:i < 2 ^ 62):aa .add (.int .i64 (i:Int)) (.int .i64 1)=some (.int .i64 ((i+1:Nat):Int)):=by
 rw [HK (by omega) (by omega)];rfl
theorem LC {i:Nat} (h:i < 2 ^ 62) (h0:0 < i):aa .sub (.int .i64 (i:Int)) (.int .i64 1)=some (.int .i64 ((i - 1:Nat):Int)):=by
 rw [pH (by omega) (by omega)]
 congr 2;omega
@[simp] theorem acu (k:IntKind) (a b:Int):imax (.int k a) (.int k b)=some (.int k (max a b)):=by
  simp only [imax,if_true]
  congr 2
  simp only [Int.max_def]
  split<;>split<;>omega
@[simp] theorem acp (k:IntKind) (a b:Int):Sw (.int k a) (.int k b)=some (.int k (min a b)):=by
  simp only [Sw,if_true]
  congr 2
  simp only [Int.min_def]
  split<;>split<;>omega
@[simp] theorem aD (es:List (List IV)):bq (.lst es)=some (.int .i64 es.length):=rfl
@[simp] theorem rL (s:ByteArray):qQ (.str s)=some (.int .i64 s.size):=rfl
@[simp] theorem Wy (es:List (List IV)):bQ (.lst es)=es.length:=rfl
@[simp] theorem aav (es:List (List IV)) (l h:Nat):ze (.lst es) l h= .lst ((es.drop l).take (h - l)):=rfl
@[simp] theorem fU:ai []=some []:=rfl
@[simp] theorem dV (b:Bool) (l:List IV):ai (.bool b::l)=(ai l).map (.bool b:: ·):=by
  simp only [ai,List.all_cons,IV.scalar,Bool.true_and];split<;>rfl
@[simp] theorem QX (k:IntKind) (n:Int) (l:List IV):ai (.int k n::l)=(ai l).map (.int k n:: ·):=by
  simp only [ai,List.all_cons,IV.scalar,Bool.true_and];split<;>rfl
@[simp] theorem aaU (k:FloatKind) (n:Nat) (l:List IV):ai (.flt k n::l)=(ai l).map (.flt k n:: ·):=by
  simp only [ai,List.all_cons,IV.scalar,Bool.true_and];split<;>rfl
@[simp] theorem abH (s:ByteArray) (l:List IV):ai (.str s::l)=(ai l).map (.str s:: ·):=by
  simp only [ai,List.all_cons,IV.scalar,Bool.true_and];split<;>rfl
@[simp] theorem jO {R:Type} (x:Option R) (l:List (Option R)):iA 0 (x::l)=x:=rfl
@[simp] theorem XE {R:Type} (x y:Option R) (l:List (Option R)):iA 1 (x::y::l)=y:=rfl
@[simp] theorem aco {R:Type} (x y z:Option R) (l:List (Option R)):iA 2 (x::y::z::l)=z:=rfl
theorem nK {α:Type} {enc:α->List IV} {l:List α} {i:Nat} {x:α} {sz:Nat} (h:l[i]? =some x) (hs:(enc x).length=sz) (hp:0 < sz):dH (.lst (l.map enc)) (.int .i64 (i:Int)) sz=some i:=by
 have hi:i < l.length:=(List.getElem?_eq_some_iff.1 h).1
 simp only [dH]
 rw [if_pos]
 ·simp
 ·refine ⟨by omega,by simp;omega,?_,hp⟩
  simp only [Int.toNat_natCast,List.getD_eq_getElem?_getD,List.getElem?_map,h,Option.map_some,Option.getD_some,hs]
theorem wF {α:Type} {enc:α->List IV} {l:List α} {i:Nat} {x:α} {sz:Nat} (h:l[i]? =some x) (hs:(enc x).length=sz):eR (.lst (l.map enc)) i 0 sz=some (enc x):=by
 simp only [eR,List.getElem?_map,h,Option.map_some,Option.bind_some,Nat.zero_add,List.drop_zero]
 rw [if_pos (by omega),<-hs,List.take_length]
theorem er {α:Type} {enc:α->List IV} {l:List α} {i j:Nat} {x:α} (h:l[i]? =some x):qA (.lst (l.map enc)) i j=(enc x)[j]? :=by
 simp only [qA,List.getElem?_map,h,Option.map_some,Option.bind_some]
theorem vC {n i:Nat} {k:IntKind} (h:i < n):cE n (.int k (i:Int))=some i:=by
 simp only [cE]
 rw [if_pos (by omega)];simp
def Fo {α σ:Type} (step:Nat->σ->α->σ ⊕ (Nat×List IV)) (out:σ->Nat×List IV):List α->Nat->σ->Nat×List IV
 | [],_,s=>out s
 | x::xs,i,s=>match step i s x with | .inl s'=>Fo step out xs (i+1) s' | .inr p=>p
theorem LJ {α σ:Type} {f:List IV->Option SR} {enc:Nat->σ->List IV} {step:Nat->σ->α->σ ⊕ (Nat×List IV)} {out:σ->Nat×List IV} (I:Nat->σ->Prop) (l:List α)
  (hs: ∀i s x,l[i]? =some x->I i s->(∀s',step i s x= .inl s'->I (i+1) s')/\f (enc i s)=some (match step i s x with | .inl s'=> .next (enc (i+1) s') | .inr p=> .done p.1 p.2))
  (he: ∀s,I l.length s->f (enc l.length s)=some (.done (out s).1 (out s).2)):
  ∀(n k:Nat) (s:σ),k<=l.length->l.length - k < n->I k s->iter n f (enc k s)=some (Fo step out (l.drop k) k s)
 | 0,k,s,_,h,_=>by omega
 | n+1,k,s,hk,hn,hI=>by
   by_cases h:k=l.length
   ·subst h
    simp only [iter,he s hI,Option.bind_some,List.drop_length,Fo]
   ·have hlt:k < l.length:=by omega
    have hx:l[k]? =some l[k]:=List.getElem?_eq_getElem hlt
    obtain ⟨h1,h2⟩:=hs k s l[k] hx hI
    rw [List.drop_eq_getElem_cons hlt]
    simp only [iter,h2,Option.bind_some,Fo]
    cases hst:step k s l[k] with
    | inl s'=>exact LJ I l hs he n (k+1) s' (by omega) (by omega) (h1 s' hst)
    | inr p=>rfl
theorem Cg {α σ:Type} {f:List IV->Option SR} {vs0:List IV} (enc:Nat->σ->List IV) (step:Nat->σ->α->σ ⊕ (Nat×List IV)) (out:σ->Nat×List IV) (I:Nat->σ->Prop) (l:List α) (s:σ) (h0:vs0=enc 0 s) (hl:l.length < rounds) (hI:I 0 s)
  (hs: ∀i s x,l[i]? =some x->I i s->(∀s',step i s x= .inl s'->I (i+1) s')/\f (enc i s)=some (match step i s x with | .inl s'=> .next (enc (i+1) s') | .inr p=> .done p.1 p.2))
  (he: ∀s,I l.length s->f (enc l.length s)=some (.done (out s).1 (out s).2)):iter rounds f vs0=some (Fo step out l 0 s):=by
 subst h0
 have:=LJ I l hs he rounds 0 s (Nat.zero_le _) (by omega) hI
 simpa using this
theorem kW {α:Type} {f:List IV->Option SR} {vs0:List IV} (enc:Nat->List IV) (p:α->Bool) (kh:Nat) (hit:Nat->List IV) (km:Nat) (miss:List IV) (l:List α) (h0:vs0=enc 0) (hl:l.length < rounds)
  (hs: ∀i x,l[i]? =some x->f (enc i)=some (if p x=true then .done kh (hit i) else .next (enc (i+1)))) (he:f (enc l.length)=some (.done km miss)):
  iter rounds f vs0=some (match l.findIdx? p with | some i=>(kh,hit i) | none=>(km,miss)):=by
 rw [Cg (vs0:=vs0) (fun i (_:Unit)=>enc i) (fun i _ x=>if p x=true then .inr (kh,hit i) else .inl ()) (fun _=>(km,miss)) (fun _ _=>True) l () h0 hl trivial (fun i s x hx _=>⟨fun _ _=>trivial,by rw [hs i x hx];split<;>rfl⟩) (fun _ _=>he)]
 have key: ∀(l:List α) (k:Nat),Fo (fun i (_:Unit) x=>if p x=true then .inr (kh,hit i) else .inl ()) (fun _=>(km,miss)) l k ()=match l.findIdx? p with | some i=>(kh,hit (k+i)) | none=>(km,miss):=by
  intro l
  induction l with
  | nil=>intro k;rfl
  | cons x l ih=>
    intro k
    simp only [Fo,List.findIdx?_cons]
    by_cases h:p x=true
    ·simp [h]
    ·simp only [h,if_false,Bool.false_eq_true]
     rw [ih]
     cases l.findIdx? p with
     | none=>rfl
     | some i=>simp;congr 1;omega
 rw [key l 0]
 cases l.findIdx? p<;>simp
def anyI {α:Type} (bad:Nat->α->Bool):List α->Nat->Bool
 | [],_=>false
 | x::l,k=>bad k x||anyI bad l (k+1)
theorem L6 {α:Type} {bad:Nat->α->Bool}: ∀{l:List α} {k:Nat},anyI bad l k=true↔ ∃i x,l[i]? =some x/\bad (k+i) x=true
 | [],k=>by simp [anyI]
 | y::l,k=>by
   simp only [anyI,Bool.or_eq_true]
   rw [L6]
   constructor
   ·rintro (h | ⟨i,x,h1,h2⟩)
    ·exact ⟨0,y,rfl,h⟩
    ·exact ⟨i+1,x,by simpa using h1,by rw [<-h2];congr 1;omega⟩
   ·rintro ⟨i,x,h1,h2⟩
    cases i with
    | zero=>cases h1;exact .inl h2
    | succ i=>exact .inr ⟨i,x,by simpa using h1,by rw [<-h2];congr 1;omega⟩
theorem H0 {α:Type} {bad:Nat->α->Bool} {l:List α} {k:Nat}:anyI bad l k=false↔ ∀i x,l[i]? =some x->bad (k+i) x=false:=by
 rw [<-Bool.not_eq_true,L6]
 constructor
 ·intro h i x hx
  rw [<-Bool.not_eq_true]
  exact fun hb=>h ⟨i,x,hx,hb⟩
 ·rintro h ⟨i,x,hx,hb⟩
  rw [h i x hx] at hb;cases hb
theorem Qv {α:Type} {p:α->Bool}: ∀{l:List α} {k:Nat},anyI (fun _ x=>p x) l k=l.any p
 | [],_=>rfl
 | x::l,k=>by simp only [anyI,List.any_cons,Qv]
theorem ta {α:Type} {f:List IV->Option SR} {vs0:List IV} (enc:Nat->List IV) (bad:Nat->α->Bool) (kh:Nat) (hit:List IV) (km:Nat) (miss:List IV) (l:List α) (h0:vs0=enc 0) (hl:l.length < rounds)
  (hs: ∀i x,l[i]? =some x->f (enc i)=some (if bad i x=true then .done kh hit else .next (enc (i+1)))) (he:f (enc l.length)=some (.done km miss)):
  iter rounds f vs0=some (if anyI bad l 0=true then (kh,hit) else (km,miss)):=by
 rw [Cg (vs0:=vs0) (fun i (_:Unit)=>enc i) (fun i _ x=>if bad i x=true then .inr (kh,hit) else .inl ()) (fun _=>(km,miss)) (fun _ _=>True) l () h0 hl trivial (fun i s x hx _=>⟨fun _ _=>trivial,by rw [hs i x hx];split<;>rfl⟩) (fun _ _=>he)]
 have key: ∀(l:List α) (k:Nat),Fo (fun i (_:Unit) x=>if bad i x=true then .inr (kh,hit) else .inl ()) (fun _=>(km,miss)) l k ()=if anyI bad l k=true then (kh,hit) else (km,miss):=by
  intro l
  induction l with
  | nil=>intro k;rfl
  | cons x l ih=>
    intro k
    simp only [Fo,anyI]
    by_cases h:bad k x=true
    ·simp [h]
    ·simp only [h,if_false,Bool.false_eq_true,Bool.false_or]
     exact ih (k+1)
 rw [key l 0]
theorem kU {α σ:Type} {f:List IV->Option SR} {vs0:List IV} (enc:Nat->σ->List IV) (g:σ->α->σ) (km:Nat) (out:σ->List IV) (I:Nat->σ->Prop) (l:List α) (s:σ) (h0:vs0=enc 0 s) (hl:l.length < rounds) (hI:I 0 s)
  (hs: ∀i s x,l[i]? =some x->I i s->I (i+1) (g s x)/\f (enc i s)=some (.next (enc (i+1) (g s x)))) (he: ∀s,I l.length s->f (enc l.length s)=some (.done km (out s))):
  iter rounds f vs0=some (km,out (l.foldl g s)):=by
 rw [Cg (vs0:=vs0) enc (fun _ s x=> .inl (g s x)) (fun s=>(km,out s)) I l s h0 hl hI (fun i s x hx hI=>⟨fun s' e=>by cases e;exact (hs i s x hx hI).1,(hs i s x hx hI).2⟩) he]
 congr 1
 have key: ∀(l:List α) (k:Nat) (s:σ),Fo (fun _ s x=> .inl (g s x)) (fun s=>(km,out s)) l k s=(km,out (l.foldl g s)):=by
  intro l
  induction l with
  | nil=>intro k s;rfl
  | cons x l ih=>intro k s;exact ih (k+1) (g s x)
 exact key l 0 s
end Go.AM
namespace Go.AM
theorem bc:rounds=1000000:=rfl
structure Mark where
 r:Int
 c:Int
 deriving DecidableEq
def Lk (m:Mark):List IV:=[.int .i64 m.r,.int .i64 m.c]
abbrev aP (l:List Mark):IV:= .lst (l.map Lk)
theorem Cb {l:List Mark} {i:Nat} {x:Mark} (h:l[i]? =some x):i < l.length/\dH (aP l) (.int .i64 (i:Int)) 2=some i/\eR (aP l) i 0 2=some [.int .i64 x.r,.int .i64 x.c]/\qA (aP l) i 0=some (.int .i64 x.r)/\qA (aP l) i 1=some (.int .i64 x.c)/\cE l.length (.int .i64 (i:Int))=some i:=
 ⟨(List.getElem?_eq_some_iff.1 h).1,nK h rfl (by decide),wF h rfl,er h,er h,vC (List.getElem?_eq_some_iff.1 h).1⟩
theorem U5 {l:List Mark} {i:Nat} {x:Mark} (h:l[i]? =some x) (c:Int):zy (aP l) i 1 [.int .i64 c]=some (aP (l.set i ⟨x.r,c⟩)):=by
 simp only [zy,List.getElem?_map,h,Option.map_some,Option.bind_some,Lk,List.length_cons,List.length_nil]
 rw [if_pos (by decide)]
 simp only [aP,List.map_set]
 rfl
def abz (x:Int):List IV:=[.int .i64 x]
abbrev PT (l:List Int):IV:= .lst (l.map abz)
theorem Zy {l:List Int} {i:Nat} {x:Int} (h:l[i]? =some x):i < l.length/\dH (PT l) (.int .i64 (i:Int)) 1=some i/\eR (PT l) i 0 1=some [.int .i64 x]/\qA (PT l) i 0=some (.int .i64 x)/\cE l.length (.int .i64 (i:Int))=some i:=
 ⟨(List.getElem?_eq_some_iff.1 h).1,nK h rfl (by decide),wF h rfl,er h,vC (List.getElem?_eq_some_iff.1 h).1⟩
def R3 {α:Type} (p:α->Bool) (l:List α):Int:=match l.findIdx? p with | some i=>(i:Int) | none=> -1
theorem pV {α:Type} {p:α->Bool} {l:List α} (h:l.findIdx? p=none):R3 p l= -1:=by simp [R3,h]
theorem o7 {α:Type} {p:α->Bool} {l:List α} {i:Nat} (h:l.findIdx? p=some i):R3 p l=(i:Int):=by simp [R3,h]
theorem ML {α:Type} {p:α->Bool} {l:List α}:(0<=R3 p l)↔l.any p=true:=by
 unfold R3
 cases h:l.findIdx? p with
 | none=>
   simp only [List.findIdx?_eq_none_iff] at h
   constructor
   ·intro h0;simp at h0
   ·intro h0
    obtain ⟨x,hx,hp⟩:=List.any_eq_true.1 h0
    rw [h x hx] at hp;cases hp
 | some i=>
   simp only [Int.natCast_nonneg,true_iff]
   obtain ⟨hi,hp,_⟩:=List.findIdx?_eq_some_iff_getElem.1 h
   exact List.any_eq_true.2 ⟨l[i],List.getElem_mem hi,hp⟩
theorem lp {α:Type} {p:α->Bool} {l:List α} {i:Nat} (h:l.findIdx? p=some i): ∃x,l[i]? =some x/\p x=true:=by
 obtain ⟨hi,hp,_⟩:=List.findIdx?_eq_some_iff_getElem.1 h
 exact ⟨l[i],List.getElem?_eq_getElem hi,hp⟩
theorem pz {C:IV->List Nat->List (List IV)->Option (List IV)} {fv:IV} {p:Mark->Bool} {l:List Mark} (hl:l.length < 2 ^ 16) (hC: ∀x∈l,C fv [1] [Lk x]=some [.bool (p x)]):
  ay C (aP l) fv=some [.int .i64 (R3 p l)]:=by
 unfold ay
 simp only [aD,Option.bind_some]
 rw [kW (vs0:=[IV.int .i64 0]) (fun i=>[IV.int .i64 (i:Int)]) p 1 (fun i=>[IV.int .i64 (i:Int)]) 0 [] l rfl (by have:=bc;omega)]
 ·unfold R3
  cases l.findIdx? p<;>simp
 ·intro i x hx
  have hi:i < l.length:=(List.getElem?_eq_some_iff.1 hx).1
  have hc:=hC x (List.mem_of_getElem? hx)
  unfold fg
  unfold Lk at hc
  simp [Cb hx,hc,bE,aL (show i < 2 ^ 62 by omega)]
  split<;>rfl
 ·unfold fg
  simp
def getM:List Mark->Int->Int
 | [],_=>0
 | x::l,r=>if x.r=r then x.c else getM l r
def Pp (r:Int) (x:Mark):Bool:=decide (x.r=r)
def PK (v:List Mark) (r:Int):Bool:=v.any (Pp r)
def zA:List Mark->Int->Int->List Mark
 | [],_,_=>[]
 | x::l,c,r=>if x.r=r then ⟨x.r,max x.c c⟩::l else x::zA l c r
def BP:List Mark->Int->Int->List Mark
 | [],c,r=>[⟨r,c⟩]
 | x::l,c,r=>if r < x.r then ⟨r,c⟩::x::l else x::BP l c r
def iW (v:List Mark) (c r:Int):List Mark:=if PK v r=true then zA v c r else if c<=0 then v else BP v c r
def xc (a b:List Mark):Bool:= !a.any fun x=>decide (getM b x.r < getM a x.r)
def R8 (v:List Mark):Bool:= !anyI (fun i x=>decide (x.r < 1)||decide (255 < x.r)||decide (x.c < 1)||decide (4611686018427387903 < x.c)||(decide (0 < i)&&decide (x.r<=(v.getD (i - 1) x).r))) v 0
theorem TJ {r:Int}: ∀(l:List Mark),getM l r=match l.findIdx? (Pp r) with | some i=>(l.getD i ⟨0,0⟩).c | none=>0
 | []=>rfl
 | x::l=>by
   simp only [getM,List.findIdx?_cons,Pp,decide_eq_true_eq]
   by_cases h:x.r=r
   ·simp [h]
   ·simp only [h,if_false]
    rw [TJ l]
    cases l.findIdx? (Pp r)<;>simp
theorem TZ {c r:Int}: ∀(l:List Mark) (i:Nat) (x:Mark),l.findIdx? (Pp r)=some i->l[i]? =some x->zA l c r=l.set i ⟨x.r,max x.c c⟩
 | [],i,x,h,_=>by simp at h
 | y::l,i,x,h,hx=>by
   simp only [List.findIdx?_cons,Pp,decide_eq_true_eq] at h
   by_cases hy:y.r=r
   ·simp only [hy,if_true,Option.some.injEq] at h
    subst h
    cases hx
    simp [zA,hy]
   ·simp only [hy,if_false] at h
    obtain ⟨j,hj,rfl⟩:=Option.map_eq_some_iff.1 h
    simp only [zA,hy,if_false,List.set_cons_succ]
    rw [TZ l j x hj (by simpa using hx)]
theorem TS {c r:Int}: ∀(l:List Mark),BP l c r=l.take ((l.findIdx? fun x=>decide (r < x.r)).getD l.length)++[⟨r,c⟩]++l.drop ((l.findIdx? fun x=>decide (r < x.r)).getD l.length)
 | []=>rfl
 | x::l=>by
   simp only [BP,List.findIdx?_cons,decide_eq_true_eq]
   by_cases h:r < x.r
   ·simp [h]
   ·simp only [h,if_false]
    rw [TS l]
    cases l.findIdx? (fun x=>decide (r < x.r))<;>simp
theorem wP {l:List Mark} (hl:l.length < 2 ^ 16) (r:Int):gW (aP l) (.int .i64 r)=some [.int .i64 (R3 (Pp r) l),.bool (decide (0<=R3 (Pp r) l))]:=by
 unfold gW
 rw [pz hl (p:=Pp r)]
 ·simp
 ·intro x _
  show gF (.int .i64 x.r) (.int .i64 x.c) (.ptr [.int .i64 r] 0)=_
  unfold gF
  simp [gX,Pp]
theorem tL {l:List Mark} (hl:l.length < 2 ^ 16) (r:Int):iO (aP l) (.int .i64 r)=some [.int .i64 (getM l r)]:=by
 unfold iO
 rw [wP hl,TJ]
 cases h:l.findIdx? (Pp r) with
 | none=>simp [pV h]
 | some i=>
   obtain ⟨x,hx,_⟩:=lp h
   have hxx:l.getD i ⟨0,0⟩=x:=by rw [List.getD_eq_getElem?_getD,hx];rfl
   simp only [hxx]
   simp [o7 h,Cb hx,aQ]
theorem A7 {l:List Int} (hl:l.length < 2 ^ 16) (n:Int):fP (.int .i64 n) (PT l)=some [.int .i64 (l.foldl max n)]:=by
 unfold fP
 simp only [aD,Option.bind_some]
 rw [kU (vs0:=[IV.int .i64 n,.int .i64 0]) (fun i (n:Int)=>[IV.int .i64 n,.int .i64 (i:Int)]) (fun n x=>max n x) 0 (fun n=>[.int .i64 n]) (fun _ _=>True) l n rfl (by have:=bc;omega) trivial]
 ·simp
 ·intro i s x hx _
  have hi:i < l.length:=(List.getElem?_eq_some_iff.1 hx).1
  refine ⟨trivial,?_⟩
  unfold l6
  simp [Zy hx,aL (show i < 2 ^ 62 by omega)]
 ·intro s _
  unfold l6
  simp
theorem DG {l:List Mark} (hl:l.length < 2 ^ 16) {i:Nat} (hi:i<=l.length) (m:Mark):cf (aP l) (.int .i64 (i:Int)) (.lst [[.int .i64 m.r,.int .i64 m.c]])=some [aP (l.take i++[m]++l.drop i)]:=by
 unfold cf
 simp only [oP]
 rw [if_pos]
 ·simp [Lk]
 ·refine ⟨by omega,by simp;omega,by simp;omega,rfl⟩
theorem SU {l:List Mark} (hl:l.length < 2 ^ 16):dA (aP l)=some [aP l]:=by
 unfold dA
 simp only [p8]
 rw [if_pos]
 refine ⟨by simp;omega,by simp [Lk]⟩
theorem vI {l:List Mark} (hl:l.length < 2 ^ 16) (c r:Int):gU (aP l) (.int .i64 c) (.int .i64 r)=some [aP (iW l c r)]:=by
 unfold gU iW PK
 rw [SU hl]
 simp only [Option.bind_some]
 rw [wP hl]
 simp only [Option.bind_some,aC,ag,aQ,ML]
 by_cases h:l.any (Pp r)=true
 ·simp only [h,if_true]
  obtain ⟨i,hi⟩: ∃i,l.findIdx? (Pp r)=some i:=by
   cases hh:l.findIdx? (Pp r) with
   | some i=>exact ⟨i,rfl⟩
   | none=>have:=ML.2 h;rw [pV hh] at this;omega
  obtain ⟨x,hx,_⟩:=lp hi
  rw [o7 hi,TZ l i x hi hx]
  have hg:=A7 (l:=[c]) (by simp) x.c
  simp only [PT,abz,List.map_cons,List.map_nil,List.foldl_cons,List.foldl_nil] at hg
  simp [Cb hx,hg,U5 hx]
 ·simp only [h,if_false,Bool.false_eq_true]
  simp only [sB,Option.bind_some,aQ]
  split
  ·rfl
  ·rw [pz hl (p:=fun x=>decide (r < x.r))]
   ·rw [TS]
    cases hh:l.findIdx? (fun x=>decide (r < x.r)) with
    | none=>
      have:=DG hl (Nat.le_refl _) ⟨r,c⟩
      simp only at this
      simp [pV hh,this]
    | some i=>
      obtain ⟨hi,_⟩:=List.findIdx?_eq_some_iff_getElem.1 hh
      have:=DG hl (Nat.le_of_lt hi) ⟨r,c⟩
      simp only at this
      simp [o7 hh,this,aQ,show ¬((i:Int) < 0) by omega]
   ·intro x _
    show gB (.int .i64 x.r) (.int .i64 x.c) (.ptr [.int .i64 c,.int .i64 r] 0)=_
    unfold gB
    simp [gX,gY]
end Go.AM
namespace Go.AM
theorem En {c r:Int}: ∀(l:List Mark),(zA l c r).length=l.length
 | []=>rfl
 | x::l=>by simp only [zA];split<;>simp [En l]
theorem DK {c r:Int}: ∀(l:List Mark),(BP l c r).length=l.length+1
 | []=>rfl
 | x::l=>by simp only [BP];split<;>simp [DK l]
theorem re {c r:Int} (l:List Mark):(iW l c r).length<=l.length+1:=by
 unfold iW
 split
 ·rw [En];omega
 ·split
  ·omega
  ·rw [DK];omega
structure Mv where
 c:Int
 r:Int
 par:Int
 ch:Int
 nm:ByteArray
 rk:Nat
 deriving DecidableEq
def Tg (m:Mv):List IV:=[.int .i64 m.c,.int .i64 m.r,.int .i64 m.par,.int .i64 m.ch,.str m.nm,.flt .f64 m.rk]
abbrev az (l:List Mv):IV:= .lst (l.map Tg)
theorem Xb {α:Type} {enc:α->List IV} {l:List α} {i n:Nat} {x:α} (h:l[i]? =some x) (hs:n<=(enc x).length):eR (.lst (l.map enc)) i 0 n=some ((enc x).take n):=by
 simp only [eR,List.getElem?_map,h,Option.map_some,Option.bind_some,Nat.zero_add,List.drop_zero]
 rw [if_pos (by omega)]
theorem nw {l:List Mv} {i:Nat} {x:Mv} (h:l[i]? =some x):i < l.length/\dH (az l) (.int .i64 (i:Int)) 6=some i/\eR (az l) i 0 6=some [.int .i64 x.c,.int .i64 x.r,.int .i64 x.par,.int .i64 x.ch,.str x.nm,.flt .f64 x.rk]/\eR (az l) i 0 2=some [.int .i64 x.c,.int .i64 x.r]/\
  qA (az l) i 0=some (.int .i64 x.c)/\qA (az l) i 1=some (.int .i64 x.r)/\qA (az l) i 2=some (.int .i64 x.par)/\qA (az l) i 3=some (.int .i64 x.ch)/\qA (az l) i 4=some (.str x.nm)/\qA (az l) i 5=some (.flt .f64 x.rk)/\cE l.length (.int .i64 (i:Int))=some i:=
 ⟨(List.getElem?_eq_some_iff.1 h).1,nK h rfl (by decide),wF h rfl,Xb h (by simp [Tg]),er h,er h,er h,er h,er h,er h,vC (List.getElem?_eq_some_iff.1 h).1⟩
def ofM (l:List Mv):List Mark:=l.foldl (fun v m=>iW v m.c m.r) []
theorem AX: ∀(l:List Mv) (a:List Mark),(l.foldl (fun v m=>iW v m.c m.r) a).length<=a.length+l.length
 | [],a=>by simp
 | x::b,a=>by
   have h1:=AX b (iW a x.c x.r)
   have h2:=re (c:=x.c) (r:=x.r) a
   simp only [List.foldl_cons,List.length_cons] at h1 ⊢
   omega
theorem PQ {l:List Mv} (hl:l.length < 2 ^ 15):pC (az l)=some [aP (ofM l)]:=by
 unfold pC ofM
 simp only [aD,Option.bind_some]
 rw [kU (vs0:=[.lst [],.int .i64 0]) (fun i (v:List Mark)=>[aP v,.int .i64 (i:Int)]) (fun v x=>iW v x.c x.r) 0 (fun v=>[aP v]) (fun i v=>v.length<=i) l [] rfl (by have:=bc;omega) (by simp)]
 ·simp
 ·intro i s x hx hI
  have hi:i < l.length:=(List.getElem?_eq_some_iff.1 hx).1
  have:=re (c:=x.c) (r:=x.r) s
  refine ⟨by omega,?_⟩
  unfold vX
  simp [nw hx,vI (show s.length < 2 ^ 16 by omega),aL (show i < 2 ^ 62 by omega)]
 ·intro s _
  unfold vX
  simp
theorem FG {a b:List Mark} (ha:a.length < 2 ^ 16) (hb:b.length < 2 ^ 16):jY (aP a) (aP b)=some [.bool (xc a b)]:=by
 unfold jY bF
 rw [pz ha (p:=fun x=>decide (getM b x.r < getM a x.r))]
 ·simp only [Option.bind_some,ag,sF,ML,dV,fU,Option.map_some,jn]
  congr 3
  unfold xc
  simp only [Bool.decide_eq_true]
 ·intro x _
  show gC (.int .i64 x.r) (.int .i64 x.c) (.ptr [aP a] 0) (.ptr [aP b] 0)=_
  unfold gC
  simp [gX,tL ha,tL hb]
theorem NP {v:List Mark} (hv:v.length < 2 ^ 16):nQ (aP v)=some [.bool (R8 v)]:=by
 unfold nQ R8
 simp only [aD,Option.bind_some]
 rw [ta (vs0:=[.int .i64 0]) (fun i=>[IV.int .i64 (i:Int)]) (fun i x=>decide (x.r < 1)||decide (255 < x.r)||decide (x.c < 1)||decide (4611686018427387903 < x.c)||(decide (0 < i)&&decide (x.r<=(v.getD (i - 1) x).r))) 1 [.bool false] 0 [] v rfl (by have:=bc;omega)]
 ·split<;>simp_all
 ·intro i x hx
  have hi:i < v.length:=(List.getElem?_eq_some_iff.1 hx).1
  unfold tn
  simp only [ag,aC,aJ,sP,List.length_map,Int.ofNat_lt,Cb hx,decide_true,aj,Option.bind_some,aQ,aL (show i < 2 ^ 62 by omega)]
  by_cases h1:x.r < 1
  ·simp [h1]
  by_cases h2:255 < x.r
  ·simp [h1,h2]
  by_cases h3:x.c < 1
  ·simp [h1,h2,h3]
  by_cases h4:4611686018427387903 < x.c
  ·simp [h1,h2,h3,h4]
  by_cases h5:0 < i
  ·have hp:v[i - 1]? =some (v.getD (i - 1) x):=by
    rw [List.getD_eq_getElem?_getD,List.getElem?_eq_getElem (by omega)];rfl
   simp only [h1,h2,h3,h4,if_false,show (0:Int) < (i:Int) by omega,h5,if_true,LC (show i < 2 ^ 62 by omega) h5,Option.bind_some,Cb hp,sF,ag,aQ,decide_false,Bool.false_or,decide_true,Bool.true_and,decide_eq_true_eq]
   split<;>rfl
  ·simp [h1,h2,h3,h4,h5,show ¬((0:Int) < (i:Int)) by omega]
 ·unfold tn
  simp
def U9 (l:List Mv) (n:Nat):Bool:=decide (l.length<=n)&& !l.any fun m=>decide (100 < m.nm.size)
theorem Oo {l:List Mv} {n:Nat} (hn:n < 2 ^ 16):lq (az l) (.int .i64 (n:Int))=some [.bool (U9 l n)]:=by
 unfold lq U9
 simp only [aD,Option.bind_some,sP,List.length_map,aQ,Int.ofNat_lt]
 by_cases h:n < l.length
 ·simp [h,Nat.not_le.2 h]
 ·rw [if_neg h]
  rw [ta (vs0:=[.int .i64 0]) (fun i=>[IV.int .i64 (i:Int)]) (fun _ m=>decide (100 < m.nm.size)) 1 [.bool false] 0 [] l rfl (by have:=bc;omega),Qv]
  ·have hle:l.length<=n:=by omega
   simp only [hle,decide_true,Bool.true_and]
   cases l.any fun m=>decide (100 < m.nm.size)<;>simp
  ·intro i x hx
   have hi:i < l.length:=(List.getElem?_eq_some_iff.1 hx).1
   unfold tV
   simp only [aD,rL,ag,aJ,sP,List.length_map,Int.ofNat_lt,nw hx,decide_true,aj,Option.bind_some,aQ,aL (show i < 2 ^ 62 by omega),decide_eq_true_eq]
   have:((100:Int) < (x.nm.size:Int))↔100 < x.nm.size:=by omega
   simp only [this]
   split<;>rfl
  ·unfold tV
   simp
end Go.AM
namespace Go.AM
theorem Typed.one_inv {s:Sh} {cs:List IV} (h:Typed [s] cs): ∃c,cs=[c]/\ShOK s c:=by
 match cs,h.1 with
 | [c],_=>exact ⟨c,rfl,h.2 0 s c rfl rfl⟩
theorem Typed.cons_inv {s:Sh} {l:List Sh} {cs:List IV} (h:Typed (s::l) cs): ∃c cs',cs=c::cs'/\ShOK s c/\Typed l cs':=by
 match cs,h.1 with
 | c::cs',hl=>exact ⟨c,cs',rfl,h.2 0 s c rfl rfl,by simpa using hl,fun j s' c' h1 h2=>h.2 (j+1) s' c' (by simpa using h1) (by simpa using h2)⟩
theorem Typed.nil_inv {cs:List IV} (h:Typed [] cs):cs=[]:=List.length_eq_zero_iff.1 h.1
abbrev ab6:List Sh:=[.int .i64,.int .i64,.int .i64,.int .i64,.str,.flt .f64]
theorem TypedAll.cons_inv {l:List Sh} {L:List (List Sh)} {cs:List (List IV)} (h:TypedAll (l::L) cs): ∃c cs',cs=c::cs'/\Typed l c/\TypedAll L cs':=by
 cases h with
 | cons h t=>exact ⟨_,_,rfl,h,t⟩
theorem TypedAll.nil_inv {cs:List (List IV)} (h:TypedAll [] cs):cs=[]:=by cases h;rfl
end Go.AM
namespace Go.AM
structure MayP (v:List Mark):Prop where
 sorted:v.Pairwise fun a b=>a.r < b.r
 ok: ∀x∈v,1<=x.r/\x.r<=255/\1<=x.c/\x.c<=4611686018427387903
theorem uv {α:Type} {R:α->α->Prop} (htr: ∀a b c,R a b->R b c->R a c) {v:List α} (h: ∀(i:Nat) (hi:i+1 < v.length),R v[i] v[i+1]):v.Pairwise R:=by
 rw [List.pairwise_iff_getElem]
 intro i j hi hj hij
 obtain ⟨k,rfl⟩: ∃k,j=i+1+k:=⟨j - (i+1),by omega⟩
 induction k with
 | zero=>exact h i hj
 | succ k ih=>exact htr _ _ _ (ih (by omega) (by omega)) (h (i+1+k) hj)
theorem PR {v:List Mark}:R8 v=true↔MayP v:=by
 unfold R8
 rw [Bool.not_eq_true',H0]
 constructor
 ·intro h
  refine ⟨uv (fun a b c h1 h2=>by omega) fun i hi=> ?_,fun x hx=> ?_⟩
  ·have:=h (i+1) v[i+1] (List.getElem?_eq_getElem hi)
   simp only [Bool.or_eq_false_iff,Bool.and_eq_false_iff,decide_eq_false_iff_not,Nat.zero_add] at this
   have h5:=this.2
   have hg:v.getD (i+1 - 1) v[i+1]=v[i]:=by
    rw [Nat.add_sub_cancel,List.getD_eq_getElem?_getD,List.getElem?_eq_getElem (by omega)];rfl
   rw [hg] at h5
   omega
  ·obtain ⟨i,hi⟩:=List.getElem?_of_mem hx
   have:=h i x hi
   simp only [Bool.or_eq_false_iff,decide_eq_false_iff_not] at this
   omega
 ·intro h i x hx
  have h1:=h.ok x (List.mem_of_getElem? hx)
  simp only [Bool.or_eq_false_iff,Bool.and_eq_false_iff,decide_eq_false_iff_not,Nat.zero_add]
  refine ⟨by omega,?_⟩
  by_cases hi:0 < i
  ·refine .inr ?_
   have hlt:=(List.getElem?_eq_some_iff.1 hx).1
   have hg:v.getD (i - 1) x=v[i - 1]:=by
    rw [List.getD_eq_getElem?_getD,List.getElem?_eq_getElem (by omega)];rfl
   have:=List.pairwise_iff_getElem.1 h.sorted (i - 1) i (by omega) hlt (by omega)
   rw [hg]
   have hxx:v[i]=x:=by have:=(List.getElem?_eq_some_iff.1 hx).2;exact this
   rw [hxx] at this
   omega
  ·exact .inl hi
theorem MayP.tail {x:Mark} {v:List Mark} (h:MayP (x::v)):MayP v:=⟨(List.pairwise_cons.1 h.sorted).2,fun y hy=>h.ok y (List.mem_cons_of_mem _ hy)⟩
theorem MayP.nil:MayP []:=⟨.nil,fun x hx=>by simp at hx⟩
theorem getM_none {v:List Mark} {r:Int} (h: ∀x∈v,x.r≠r):getM v r=0:=by
 induction v with
 | nil=>rfl
 | cons x v ih=>rw [getM,if_neg (h x List.mem_cons_self)];exact ih fun y hy=>h y (List.mem_cons_of_mem _ hy)
theorem MayP.nonneg {v:List Mark} (h:MayP v) (r:Int):0<=getM v r:=by
 induction v with
 | nil=>exact Int.le_refl _
 | cons x v ih=>
   rw [getM]
   split
   ·have:=h.ok x List.mem_cons_self;omega
   ·exact ih h.tail
theorem tT {v:List Mark} {r:Int} (h: ¬(PK v r=true)): ∀x∈v,x.r≠r:=fun x hx e=>h (List.any_eq_true.2 ⟨x,hx,by simp [Pp,e]⟩)
theorem C5 {c r r':Int}: ∀{v:List Mark},PK v r=true->getM (zA v c r) r'=if r'=r then max (getM v r) c else getM v r'
 | [],h=>by simp [PK] at h
 | x::v,h=>by
   by_cases hx:x.r=r
   ·simp only [zA,hx,if_true,getM]
    by_cases hr:r'=r
    ·simp [hr]
    ·have: ¬r=r':=fun e=>hr e.symm
     simp [hr,this]
   ·have hv:PK v r=true:=by
     simp only [PK,List.any_cons,Pp,hx,decide_false,Bool.false_or] at h
     exact h
    simp only [zA,hx,if_false,getM]
    by_cases hr:r'=r
    ·subst hr
     simp only [hx,if_false,if_true]
     rw [C5 hv,if_pos rfl]
    ·simp only [hr,if_false]
     rw [C5 hv,if_neg hr]
theorem LY {c r r':Int}: ∀{v:List Mark},(∀x∈v,x.r≠r)->getM (BP v c r) r'=if r'=r then c else getM v r'
 | [],h=>by
   simp only [BP,getM]
   by_cases hr:r'=r
   ·simp [hr]
   ·have: ¬r=r':=fun e=>hr e.symm
    simp [hr,this]
 | x::v,h=>by
   have hx:=h x List.mem_cons_self
   simp only [BP]
   split
   ·simp only [getM]
    by_cases hr:r'=r
    ·simp [hr]
    ·have: ¬r=r':=fun e=>hr e.symm
     simp [hr,this]
   ·simp only [getM]
    rw [LY fun y hy=>h y (List.mem_cons_of_mem _ hy)]
    by_cases hr:r'=r
    ·subst hr;simp [hx]
    ·simp [hr]
theorem zl (v:List Mark) (c r r':Int):getM (iW v c r) r'=if r'=r then max (getM v r) c else getM v r':=by
 unfold iW
 split
 ·rename_i h;exact C5 h
 ·rename_i h
  have h0:=getM_none (tT h)
  split
  ·by_cases hr:r'=r
   ·subst hr;rw [if_pos rfl,h0];omega
   ·rw [if_neg hr]
  ·rw [LY (tT h)]
   by_cases hr:r'=r
   ·subst hr;rw [if_pos rfl,if_pos rfl,h0];omega
   ·rw [if_neg hr,if_neg hr]
theorem HQ {c r:Int}: ∀{v:List Mark} {y:Mark},y∈zA v c r-> ∃x∈v,x.r=y.r/\(y=x\/(x.r=r/\y.c=max x.c c))
 | [],y,h=>by simp [zA] at h
 | x::v,y,h=>by
   simp only [zA] at h
   split at h
   ·rename_i hx
    rcases List.mem_cons.1 h with rfl | h
    ·exact ⟨x,List.mem_cons_self,rfl,.inr ⟨hx,rfl⟩⟩
    ·exact ⟨y,List.mem_cons_of_mem _ h,rfl,.inl rfl⟩
   ·rcases List.mem_cons.1 h with rfl | h
    ·exact ⟨y,List.mem_cons_self,rfl,.inl rfl⟩
    ·obtain ⟨z,hz,h1,h2⟩:=HQ h
     exact ⟨z,List.mem_cons_of_mem _ hz,h1,h2⟩
theorem FT {c r:Int}: ∀{v:List Mark} {y:Mark},y∈BP v c r->y∈v\/y=⟨r,c⟩
 | [],y,h=>by simp [BP] at h;exact .inr h
 | x::v,y,h=>by
   simp only [BP] at h
   split at h
   ·rcases List.mem_cons.1 h with rfl | h
    ·exact .inr rfl
    ·exact .inl h
   ·rcases List.mem_cons.1 h with rfl | h
    ·exact .inl List.mem_cons_self
    ·rcases FT h with h | h
     ·exact .inl (List.mem_cons_of_mem _ h)
     ·exact .inr h
theorem D2 {c r:Int}: ∀{v:List Mark},v.Pairwise (fun a b=>a.r < b.r)->(zA v c r).Pairwise fun a b=>a.r < b.r
 | [],_=> .nil
 | x::v,h=>by
   obtain ⟨h1,h2⟩:=List.pairwise_cons.1 h
   simp only [zA]
   split
   ·exact List.pairwise_cons.2 ⟨h1,h2⟩
   ·refine List.pairwise_cons.2 ⟨fun y hy=> ?_,D2 h2⟩
    obtain ⟨z,hz,e,_⟩:=HQ hy
    rw [<-e];exact h1 z hz
theorem DY {c r:Int}: ∀{v:List Mark},(∀x∈v,x.r≠r)->v.Pairwise (fun a b=>a.r < b.r)->(BP v c r).Pairwise fun a b=>a.r < b.r
 | [],_,_=>List.pairwise_singleton _ _
 | x::v,hn,h=>by
   obtain ⟨h1,h2⟩:=List.pairwise_cons.1 h
   have hx:=hn x List.mem_cons_self
   simp only [BP]
   split
   ·rename_i hr
    refine List.pairwise_cons.2 ⟨fun y hy=> ?_,h⟩
    rcases List.mem_cons.1 hy with rfl | hy
    ·exact hr
    ·have:=h1 y hy;show r < y.r;omega
   ·refine List.pairwise_cons.2 ⟨fun y hy=> ?_,DY (fun y hy=>hn y (List.mem_cons_of_mem _ hy)) h2⟩
    rcases FT hy with hy | rfl
    ·exact h1 y hy
    ·show x.r < r;omega
theorem MayP.raise {v:List Mark} (h:MayP v) {c r:Int} (hr:1<=r/\r<=255) (hc:c<=4611686018427387903):MayP (iW v c r):=by
 unfold iW
 split
 ·refine ⟨D2 h.sorted,fun y hy=> ?_⟩
  obtain ⟨x,hx,e,h1 | ⟨_,h1⟩⟩:=HQ hy
  ·subst h1;exact h.ok y hx
  ·have:=h.ok x hx;rw [<-e,h1];omega
 ·rename_i hh
  split
  ·exact h
  ·refine ⟨DY (tT hh) h.sorted,fun y hy=> ?_⟩
   rcases FT hy with hy | rfl
   ·exact h.ok y hy
   ·show 1<=r/\r<=255/\1<=c/\c<=4611686018427387903;omega
theorem Sz {a b:List Mark} (ha:MayP a) (hb: ∀r,0<=getM b r):xc a b=true↔ ∀r,getM a r<=getM b r:=by
 unfold xc
 rw [Bool.not_eq_true',<-Bool.not_eq_true,List.any_eq_true]
 constructor
 ·intro h r
  by_cases hh:PK a r=true
  ·obtain ⟨x,hx,hp⟩:=List.any_eq_true.1 hh
   simp only [Pp,decide_eq_true_eq] at hp
   subst hp
   have: ¬(decide (getM b x.r < getM a x.r)=true):=fun hd=>h ⟨x,hx,hd⟩
   simp only [decide_eq_true_eq] at this
   omega
  ·rw [getM_none (tT hh)];exact hb r
 ·rintro h ⟨x,_,hx⟩
  simp only [decide_eq_true_eq] at hx
  have:=h x.r
  omega
theorem Bool.eq_of_iff {a b:Bool} (h:a=true↔b=true):a=b:=by cases a<;>cases b<;>simp_all
def LO (c r:Int):Bool:=decide (1<=c)&&decide (c<=4611686018427387903)&&decide (1<=r)&&decide (r<=255)
end Go.AM
namespace Go.AM
theorem H3 (b c d:Bool):af (.bool b) (fun _=>some [IV.bool c]) (fun _=>some [IV.bool d])=some [IV.bool (cond b c d)]:=by cases b<;>rfl
def ja (s:ByteArray) (i:Nat):Option Nat:=(s.data.toList[i]?).map (·.toNat)
def Eh (s:ByteArray) (i lo hi:Nat):Bool:=match ja s i with | some b=>decide (lo<=b)&&decide (b<=hi) | none=>false
theorem Y4 (s:ByteArray) (i:Nat):s[i]? =s.data.toList[i]? :=by
 rw [Array.getElem?_toList]
 unfold getElem?
 rfl
theorem An (s:ByteArray):s.data.toList.length=s.size:=by rw [Array.length_toList];rfl
theorem De {s:ByteArray} {i b:Nat} (h:ja s i=some b):i < s.size/\b < 256:=by
 unfold ja at h
 obtain ⟨x,hx,rfl⟩:=Option.map_eq_some_iff.1 h
 exact ⟨by rw [<-An];exact (List.getElem?_eq_some_iff.1 hx).1,x.toNat_lt⟩
theorem Eg {s:ByteArray} {i:Nat} (h:i < s.size): ∃b,ja s i=some b:=by
 unfold ja
 rw [List.getElem?_eq_getElem (by rw [An];exact h)]
 exact ⟨_,rfl⟩
theorem Qy {s:ByteArray} {i:Nat} (h:s.size<=i):ja s i=none:=by
 unfold ja
 rw [List.getElem?_eq_none (by rw [An];exact h)]
 rfl
theorem XR (s:ByteArray) (i:Nat):SN (.str s) (.int .i64 (i:Int))=(ja s i).map fun b=> .int .u8 (b:Int):=by
 simp only [SN,Int.toNat_natCast,Y4,ja,Option.map_map]
 rw [if_pos (by omega)]
 rfl
def VC (s:ByteArray) (i:Nat):Nat:=
 if Eh s i 0 127=true then 1
 else if (Eh s i 194 223&&Eh s (i+1) 128 191)=true then 2
 else if (Eh s (i+2) 128 191&&(Eh s i 224 224&&Eh s (i+1) 160 191||Eh s i 225 236&&Eh s (i+1) 128 191||Eh s i 238 239&&Eh s (i+1) 128 191||Eh s i 237 237&&Eh s (i+1) 128 159))=true then 3
 else if (Eh s (i+2) 128 191&&Eh s (i+3) 128 191&&(Eh s i 240 240&&Eh s (i+1) 144 191||Eh s i 241 243&&Eh s (i+1) 128 191||Eh s i 244 244&&Eh s (i+1) 128 143))=true then 4
 else 0
theorem C2 {i k:Nat} (h:i+k < 2 ^ 62):aa .add (.int .i64 (i:Int)) (.int .i64 (k:Int))=some (.int .i64 ((i+k:Nat):Int)):=by
 rw [HK (by omega) (by omega)];rfl
theorem ZH {s:ByteArray} {i:Nat}:i+VC s i<=s.size\/VC s i=0:=by
 have hin: ∀{j lo hi:Nat},Eh s j lo hi=true->j < s.size:=fun {j lo hi} h=>by
  unfold Eh at h
  cases hb:ja s j with
  | none=>rw [hb] at h;cases h
  | some b=>exact (De hb).1
 unfold VC
 split
 ·rename_i h;have:=hin h;left;omega
 ·split
  ·rename_i h;simp only [Bool.and_eq_true] at h;have:=hin h.2;left;omega
  ·split
   ·rename_i h;simp only [Bool.and_eq_true] at h;have:=hin h.1;left;omega
   ·split
    ·rename_i h;simp only [Bool.and_eq_true] at h;have:=hin h.1.2;left;omega
    ·right;rfl
def scan (s:ByteArray) (i:Nat):Nat:=if h:i < s.size/\VC s i≠0 then scan s (i+VC s i) else i
 termination_by s.size - i
 decreasing_by omega
def SD (s:ByteArray):Bool:=decide (scan s 0=s.size)
def pK (b:Nat):Nat×Nat×Nat×Bool:=
 if b < 128 then (0,128,191,true) else if b < 194 then (0,128,191,false) else if b < 224 then (1,128,191,true)
 else if b < 240 then (if b=224 then (2,160,191,true) else if b=237 then (2,128,159,true) else (2,128,191,true))
 else if b < 245 then (if b=240 then (3,144,191,true) else if b=244 then (3,128,143,true) else (3,128,191,true))
 else (0,128,191,false)
theorem Mk (b:Nat):nM (.int .u8 (b:Int))=some [.int .i64 ((pK b).1:Int),.int .u8 ((pK b).2.1:Int),.int .u8 ((pK b).2.2.1:Int),.bool (pK b).2.2.2]:=by
 unfold nM pK
 simp only [aJ,nW,Option.bind_some,aQ]
 have c1:((b:Int) < 128)=(b < 128):=propext (by omega)
 have c2:((b:Int) < 194)=(b < 194):=propext (by omega)
 have c3:((b:Int) < 224)=(b < 224):=propext (by omega)
 have c4:((b:Int) < 240)=(b < 240):=propext (by omega)
 have c5:((b:Int) < 245)=(b < 245):=propext (by omega)
 have c6:((b:Int)=224)=(b=224):=propext (by omega)
 have c7:((b:Int)=237)=(b=237):=propext (by omega)
 have c8:((b:Int)=240)=(b=240):=propext (by omega)
 have c9:((b:Int)=244)=(b=244):=propext (by omega)
 simp only [c1,c2,c3,c4,c5,c6,c7,c8,c9]
 repeat (first | rfl | split)
def pc:List Nat->Nat->Nat->Bool
 | [],_,_=>true
 | b::l,lo,hi=>decide (lo<=b)&&decide (b<=hi)&&pc l 128 191
def L7 (b:Nat):List IV:=[.int .u8 (b:Int)]
theorem SC {l:List Nat} (hl:l.length < 100) (lo hi:Nat):iter rounds (nq (.int .i64 (l.length:Int)) (.lst (l.map L7))) [.int .u8 (lo:Int),.int .u8 (hi:Int),.int .i64 0]=some (if pc l lo hi=true then (0,[]) else (1,[])):=by
 rw [Cg (vs0:=[.int .u8 (lo:Int),.int .u8 (hi:Int),.int .i64 0]) (fun i (s:Nat×Nat)=>[IV.int .u8 (s.1:Int),.int .u8 (s.2:Int),.int .i64 (i:Int)]) (fun i s b=>if b < s.1\/s.2 < b then .inr (1,[]) else .inl (128,191)) (fun _=>(0,[])) (fun _ _=>True) l (lo,hi) rfl (by have:rounds=1000000:=rfl;omega) trivial]
 ·congr 1
  have key: ∀(l:List Nat) (k lo hi:Nat),Fo (fun i (s:Nat×Nat) b=>if b < s.1\/s.2 < b then .inr (1,[]) else .inl (128,191)) (fun _=>((0,[]):Nat×List IV)) l k (lo,hi)=if pc l lo hi=true then (0,[]) else (1,[]):=by
   intro l
   induction l with
   | nil=>intro k lo hi;rfl
   | cons b l ih=>
     intro k lo hi
     simp only [Fo,pc]
     by_cases h:b < lo\/hi < b
     ·rw [if_pos h]
      have: ¬(decide (lo<=b)&&decide (b<=hi)&&pc l 128 191)=true:=by
       simp only [Bool.and_eq_true,decide_eq_true_eq];omega
      simp only [this,if_false,Bool.false_eq_true]
     ·rw [if_neg h]
      have h1:lo<=b:=by omega
      have h2:b<=hi:=by omega
      simp only [h1,h2,decide_true,Bool.true_and]
      exact ih (k+1) 128 191
  exact key l 0 lo hi
 ·intro i s b hb _
  have hi:i < l.length:=(List.getElem?_eq_some_iff.1 hb).1
  refine ⟨fun _ _=>trivial,?_⟩
  unfold nq
  simp only [ag,aC,bV,aJ,sP,Option.bind_some,Int.ofNat_lt,hi,decide_true,aj,nK (enc:=L7) (sz:=1) hb rfl (Nat.zero_lt_one),er (enc:=L7) hb,L7,List.getElem?_cons_zero,aQ,aL (show i < 2 ^ 62 by omega)]
  by_cases h1:b < s.1
  ·simp [h1]
  ·by_cases h2:s.2 < b
   ·simp [h1,h2]
   ·simp [h1,h2]
 ·intro s _
  unfold nq
  simp
theorem Sj (s:ByteArray): ∀i,(s.data.toList.map (·.toNat))[i]? =ja s i:=fun i=>by rw [List.getElem?_map];rfl
theorem Xx {s:ByteArray} {i b:Nat} (hb:ja s i=some b):VC s i=if (pK b).2.2.2=true/\(pK b).1 < s.size - i/\pc (((s.data.toList.map (·.toNat)).drop (i+1)).take (pK b).1) (pK b).2.1 (pK b).2.2.1=true then 1+(pK b).1 else 0:=by
 have hi:=(De hb).1
 have key: ∀(n k:Nat),k<=s.size->s.size - k>=n+1-> ∃c,ja s k=some c/\((s.data.toList.map (·.toNat)).drop k).take (n+1)=c::((s.data.toList.map (·.toNat)).drop (k+1)).take n:=fun n k hk hn=>by
  obtain ⟨c,hc⟩:=Eg (s:=s) (i:=k) (by omega)
  refine ⟨c,hc,?_⟩
  have hk':k < (s.data.toList.map (·.toNat)).length:=by rw [List.length_map,An];omega
  rw [List.drop_eq_getElem_cons hk',List.take_succ_cons]
  congr 1
  have:=Sj s k
  rw [List.getElem?_eq_getElem hk',hc] at this
  exact Option.some.inj this
 have none_: ∀{k lo hi:Nat},s.size<=k->Eh s k lo hi=false:=fun {k lo hi} h=>by unfold Eh;rw [Qy h]
 have some_: ∀{k c lo hi:Nat},ja s k=some c->Eh s k lo hi=(decide (lo<=c)&&decide (c<=hi)):=fun {k c lo hi} h=>by unfold Eh;rw [h]
 unfold VC pK
 simp only [some_ hb]
 by_cases h1:b < 128
 ·have e:0 < s.size - i:=by omega
  simp [h1,pc,e,show b<=127 by omega]
 have n1: ¬b<=127:=by omega
 by_cases h2:b < 194
 ·have q1: ¬194<=b:=by omega
  have q2: ¬224<=b:=by omega
  have q3: ¬225<=b:=by omega
  have q4: ¬238<=b:=by omega
  have q5: ¬237<=b:=by omega
  have q6: ¬240<=b:=by omega
  have q7: ¬241<=b:=by omega
  have q8: ¬244<=b:=by omega
  simp [h1,h2,n1,q1,q2,q3,q4,q5,q6,q7,q8]
 have p1:194<=b:=by omega
 by_cases h3:b < 224
 ·have q1:b<=223:=by omega
  have q2: ¬224<=b:=by omega
  have q3: ¬225<=b:=by omega
  have q4: ¬238<=b:=by omega
  have q5: ¬237<=b:=by omega
  have q6: ¬240<=b:=by omega
  have q7: ¬241<=b:=by omega
  have q8: ¬244<=b:=by omega
  by_cases hlen:1 < s.size - i
  ·obtain ⟨c1,hc1,t1⟩:=key 0 (i+1) (by omega) (by omega)
   simp only [List.take_zero,Nat.zero_add] at t1
   simp [h1,h2,h3,n1,p1,q1,q2,q3,q4,q5,q6,q7,q8,hlen,t1,pc,some_ hc1]
  ·simp [h1,h2,h3,n1,p1,q1,q2,q3,q4,q5,q6,q7,q8,hlen,none_ (show s.size<=i+1 by omega)]
 have n3: ¬b<=223:=by omega
 have p2:224<=b:=by omega
 by_cases h4:b < 240
 ·have q6: ¬240<=b:=by omega
  have q7: ¬241<=b:=by omega
  have q8: ¬244<=b:=by omega
  by_cases hlen:2 < s.size - i
  ·obtain ⟨c1,hc1,t1⟩:=key 1 (i+1) (by omega) (by omega)
   obtain ⟨c2,hc2,t2⟩:=key 0 (i+1+1) (by omega) (by omega)
   simp only [List.take_zero,Nat.zero_add] at t2
   simp only [Nat.reduceAdd,t2] at t1
   have hc2':ja s (i+2)=some c2:=hc2
   by_cases e1:b=224
   ·subst e1
    simp [hlen,t1,pc,some_ hc1,some_ hc2',Bool.and_comm,Bool.and_left_comm,Bool.and_assoc]
   ·by_cases e2:b=237
    ·subst e2
     simp [hlen,t1,pc,some_ hc1,some_ hc2',Bool.and_comm,Bool.and_left_comm,Bool.and_assoc]
    ·have g1: ¬b<=224:=by omega
     have g2:225<=b:=by omega
     have g3:b<=239:=by omega
     have g4:(b<=236\/238<=b):=by omega
     have g5: ¬(237<=b/\b<=237):=by omega
     simp only [h1,h2,h3,h4,e1,e2,n1,n3,p1,p2,q6,q7,q8,hlen,t1,pc,some_ hc1,some_ hc2',g1,g2,g3,if_true,if_false,decide_true,decide_false,Bool.true_and,Bool.and_true,Bool.false_and,Bool.and_false,Bool.false_eq_true,Bool.false_or,Bool.or_false,true_and]
     rcases g4 with g4 | g4
     ·have g6: ¬238<=b:=by omega
      have g7: ¬(237<=b):=by omega
      simp [g4,g6,g7,Bool.and_comm,Bool.and_left_comm,Bool.and_assoc]
     ·have g6: ¬b<=236:=by omega
      have g7: ¬(b<=237):=by omega
      simp [g4,g6,g7,Bool.and_comm,Bool.and_left_comm,Bool.and_assoc]
  ·have z:=none_ (lo:=128) (hi:=191) (show s.size<=i+2 by omega)
   simp only [h1,h2,h3,h4,n1,n3,p1,p2,q6,q7,q8,z,if_true,if_false,decide_true,decide_false,Bool.true_and,Bool.and_true,Bool.false_and,Bool.and_false,Bool.false_eq_true,Bool.false_or,Bool.or_false,true_and]
   by_cases e1:b=224
   ·simp [e1,hlen]
   ·by_cases e2:b=237
    ·simp [e2,hlen]
    ·simp [e1,e2,hlen]
 have p3:240<=b:=by omega
 have r1: ¬b<=224:=by omega
 have r2: ¬b<=236:=by omega
 have r3: ¬b<=239:=by omega
 have r4: ¬b<=237:=by omega
 have q240: ¬b=224:=by omega
 by_cases h5:b < 245
 ·by_cases hlen:3 < s.size - i
  ·obtain ⟨c1,hc1,t1⟩:=key 2 (i+1) (by omega) (by omega)
   obtain ⟨c2,hc2,t2⟩:=key 1 (i+1+1) (by omega) (by omega)
   obtain ⟨c3,hc3,t3⟩:=key 0 (i+1+1+1) (by omega) (by omega)
   simp only [List.take_zero,Nat.zero_add] at t3
   simp only [Nat.reduceAdd,t3] at t2
   simp only [Nat.reduceAdd,t2] at t1
   have hc2':ja s (i+2)=some c2:=hc2
   have hc3':ja s (i+3)=some c3:=hc3
   by_cases e1:b=240
   ·subst e1
    simp [hlen,t1,pc,some_ hc1,some_ hc2',some_ hc3',Bool.and_comm,Bool.and_left_comm,Bool.and_assoc]
   ·by_cases e2:b=244
    ·subst e2
     simp [hlen,t1,pc,some_ hc1,some_ hc2',some_ hc3',Bool.and_comm,Bool.and_left_comm,Bool.and_assoc]
    ·have g1: ¬b<=240:=by omega
     have g2:241<=b:=by omega
     have g3:b<=243:=by omega
     have g4: ¬244<=b:=by omega
     simp [h1,h2,h3,h4,h5,e1,e2,n1,n3,p1,p2,p3,r1,r2,r3,r4,hlen,t1,pc,some_ hc1,some_ hc2',some_ hc3',g1,g2,g3,g4,Bool.and_comm,Bool.and_left_comm,Bool.and_assoc]
  ·have z:=none_ (lo:=128) (hi:=191) (show s.size<=i+3 by omega)
   simp only [h1,h2,h3,h4,h5,n1,n3,p1,p2,p3,r1,r2,r3,r4,z,if_true,if_false,decide_true,decide_false,Bool.true_and,Bool.and_true,Bool.false_and,Bool.and_false,Bool.false_eq_true,Bool.false_or,Bool.or_false,true_and]
   by_cases e1:b=240
   ·simp [e1,hlen]
   ·by_cases e2:b=244
    ·simp [e2,hlen]
    ·simp [e1,e2,hlen]
 ·have g1: ¬b<=240:=by omega
  have g2: ¬b<=243:=by omega
  have g3: ¬b<=244:=by omega
  simp [h1,h2,h3,h4,h5,n1,n3,p1,p2,p3,r1,r2,r3,r4,g1,g2,g3]
theorem J6 (s:ByteArray) (a b:Nat):(s.extract a b).data.toList.map (·.toNat)=((s.data.toList.map (·.toNat)).drop a).take (b - a):=by
 have:(s.extract a b).data=s.data.extract a b:=by rw [ByteArray.data_extract]
 rw [this,Array.toList_extract,List.extract_eq_take_drop,List.map_take,List.map_drop]
theorem Th {s:ByteArray} (hs:s.size < 2 ^ 40) {n i:Nat} (hn:n < 2 ^ 40) (hi:i < s.size):gS (.str s) [.int .i64 (n:Int),.int .i64 (i:Int)]=some (if VC s i≠0 then .next [.int .i64 ((n+1:Nat):Int),.int .i64 ((i+VC s i:Nat):Int)] else .done 0 [.int .i64 (n:Int),.int .i64 (i:Int)]):=by
 obtain ⟨b,hb⟩:=Eg hi
 have hb8:=(De hb).2
 have hr:(pK b).1<=3:=by unfold pK;repeat (first | split | simp)
 rw [Xx hb]
 unfold gS
 have hsub:aa .sub (.int .i64 (s.size:Int)) (.int .i64 (i:Int))=some (.int .i64 ((s.size - i:Nat):Int)):=by
  rw [pH (by omega) (by omega)];congr 2;omega
 simp only [rL,aC,ag,bV,bw,aJ,Int.ofNat_lt,Option.bind_some,hi,decide_true,aj,XR,hb,Option.map_some,Mk,jn,hsub,sB,Int.ofNat_le,bE,Bool.not_eq_true']
 generalize hx:pK b=x at hr ⊢
 obtain ⟨rest,lo,hi',is⟩:=x
 simp only at hr ⊢
 cases is with
 | false=>simp
 | true=>
   simp only [Bool.true_eq_false,if_false,Option.bind_some,ag,true_and]
   by_cases hle:s.size - i<=rest
   ·have: ¬rest < s.size - i:=by omega
    simp [hle,this]
   ·have hlt:rest < s.size - i:=by omega
    have a1:aa .add (.int .i64 (i:Int)) (.int .i64 1)=some (.int .i64 ((i+1:Nat):Int)):=aL (by omega)
    have a2:aa .add (.int .i64 ((i+1:Nat):Int)) (.int .i64 (rest:Int))=some (.int .i64 ((i+1+rest:Nat):Int)):=C2 (by omega)
    have a3:aa .add (.int .i64 1) (.int .i64 (rest:Int))=some (.int .i64 ((1+rest:Nat):Int)):=C2 (i:=1) (by omega)
    have a4:aa .add (.int .i64 (i:Int)) (.int .i64 ((1+rest:Nat):Int))=some (.int .i64 ((i+(1+rest):Nat):Int)):=C2 (by omega)
    have a5:aa .add (.int .i64 (n:Int)) (.int .i64 1)=some (.int .i64 ((n+1:Nat):Int)):=aL (by omega)
    have bb: ∀(n i:Nat),i<=n->R2 (.int .i64 (i:Int)) n=some i:=fun n i h=>by
     simp only [R2];rw [if_pos (by omega)];simp
    have hsl:yT (.str s) (some (.int .i64 ((i+1:Nat):Int))) (some (.int .i64 ((i+1+rest:Nat):Int)))=some (.str (s.extract (i+1) (i+1+rest))):=by
     simp only [yT,sK,bb s.size (i+1+rest) (by omega),bb (i+1+rest) (i+1) (by omega),Option.bind_some]
    generalize hl:((s.data.toList.map (·.toNat)).drop (i+1)).take rest=l
    have hll:l.length=rest:=by
     rw [<-hl];simp only [List.length_take,List.length_drop,List.length_map,An];omega
    have hcv:Se (.str (s.extract (i+1) (i+1+rest)))=some (.lst (l.map L7)):=by
     simp only [Se]
     congr 2
     have h1:(s.extract (i+1) (i+1+rest)).data.toList.map (fun b=>[IV.int .u8 (b.toNat:Int)])=((s.extract (i+1) (i+1+rest)).data.toList.map (·.toNat)).map L7:=by
      rw [List.map_map];rfl
     rw [h1,J6,show i+1+rest - (i+1)=rest by omega,hl]
    simp only [decide_eq_true_eq,hle,if_false,a1,a2,hsl,hcv,Option.bind_some,aD,List.length_map,SC (show l.length < 100 by omega),decide_false,Bool.false_eq_true,hlt,true_and]
    by_cases hrb:pc l lo hi'=true
    ·simp only [hrb,if_true,jO,a3,a4,a5,Option.bind_some]
     rw [if_pos (by omega)]
     rfl
    ·simp only [hrb,if_false,XE,Bool.false_eq_true]
     simp
theorem GM {s:ByteArray} (hs:s.size < 2 ^ 39): ∀(m n i:Nat),i<=s.size->n<=i->s.size - i < m-> ∃k:Nat,iter m (gS (.str s)) [.int .i64 (n:Int),.int .i64 (i:Int)]=some (0,[.int .i64 (k:Int),.int .i64 (scan s i:Int)])
 | 0,n,i,_,_,h=>by omega
 | m+1,n,i,hi,hn,hm=>by
   by_cases h:i < s.size
   ·simp only [iter,Th (show s.size < 2 ^ 40 by omega) (show n < 2 ^ 40 by omega) h,Option.bind_some]
    rw [scan]
    by_cases h2:VC s i=0
    ·have: ¬(i < s.size/\VC s i≠0):=fun hh=>hh.2 h2
     rw [dif_neg this]
     simp only [h2,ne_eq,not_true_eq_false,if_false]
     exact ⟨n,rfl⟩
    ·have hle:=ZH (s:=s) (i:=i)
     rw [dif_pos ⟨h,h2⟩]
     simp only [ne_eq,h2,not_false_eq_true,if_true]
     exact GM hs m (n+1) (i+VC s i) (by omega) (by omega) (by omega)
   ·have hf:gS (.str s) [.int .i64 (n:Int),.int .i64 (i:Int)]=some (.done 0 [.int .i64 (n:Int),.int .i64 (i:Int)]):=by
     unfold gS
     simp only [rL,aC,ag,aJ,Int.ofNat_lt,Option.bind_some,h,decide_false,aF]
    rw [scan,dif_neg (fun hh=>h hh.1)]
    exact ⟨n,by simp only [iter,hf,Option.bind_some]⟩
theorem Kx {s:ByteArray} (hs:s.size < 2 ^ 19):jo (.str s)=some [.bool (SD s)]:=by
 unfold jo oU SD
 obtain ⟨k,hk⟩:=GM (s:=s) (by omega) rounds 0 0 (Nat.zero_le _) (Nat.le_refl _) (by have:rounds=1000000:=rfl;omega)
 rw [show (IV.int .i64 0)= .int .i64 ((0:Nat):Int) from rfl,hk]
 simp only [Option.bind_some,jO,ag,aC,QX,fU,Option.map_some,rL,nW,dV]
 congr 3
 exact decide_eq_decide.2 (by omega)
end Go.AM
namespace Go.AM
def s8 {α:Type} (R:α->α->Bool):List α->Bool
 | []=>true
 | [_]=>true
 | x::y::l=>R x y&&s8 R (y::l)
theorem AE {α:Type} {R:α->α->Bool}: ∀{l:List α},s8 R l=true↔ ∀(i:Nat) (x y:α),l[i]? =some x->l[i+1]? =some y->R x y=true
 | []=>by simp [s8]
 | [x]=>by simp [s8]
 | x::y::l=>by
   simp only [s8,Bool.and_eq_true]
   rw [AE]
   constructor
   ·rintro ⟨h1,h2⟩ i a b ha hb
    cases i with
    | zero=>cases ha;cases hb;exact h1
    | succ i=>exact h2 i a b (by simpa using ha) (by simpa using hb)
   ·intro h
    exact ⟨h 0 x y rfl rfl,fun i a b ha hb=>h (i+1) a b (by simpa using ha) (by simpa using hb)⟩
theorem WH {α:Type} {R:α->α->Bool} {l:List α}:anyI (fun i x=>decide (0 < i)&& !R (l.getD (i - 1) x) x) l 0= !s8 R l:=by
 have key:anyI (fun i x=>decide (0 < i)&& !R (l.getD (i - 1) x) x) l 0=false↔s8 R l=true:= ?_
 ·cases h1:anyI (fun i x=>decide (0 < i)&& !R (l.getD (i - 1) x) x) l 0<;>cases h2:s8 R l<;>simp_all
 rw [H0,AE]
 constructor
 ·intro h i x y hx hy
  have:=h (i+1) y hy
  simp only [Nat.zero_add,Nat.lt_add_left_iff_pos,Bool.and_eq_false_iff,decide_eq_false_iff_not,Bool.not_eq_false',Nat.add_sub_cancel] at this
  have hg:l.getD i y=x:=by rw [List.getD_eq_getElem?_getD,hx];rfl
  rw [hg] at this
  rcases this with h1 | h1
  ·omega
  ·exact h1
 ·intro h i x hx
  simp only [Nat.zero_add,Bool.and_eq_false_iff,decide_eq_false_iff_not,Bool.not_eq_false']
  cases i with
  | zero=>exact .inl (by omega)
  | succ i=>
    have hlt:=(List.getElem?_eq_some_iff.1 hx).1
    have hp:l[i]? =some l[i]:=List.getElem?_eq_getElem (by omega)
    have hg:l.getD i x=l[i]:=by rw [List.getD_eq_getElem?_getD,hp];rfl
    rw [Nat.add_sub_cancel,hg]
    exact .inr (h i _ _ hp hx)
def befB (c r c' r':Int):Bool:=decide (c < c')||decide (c=c')&&decide (r < r')
def AO (a b:Mv):Bool:=befB a.c a.r b.c b.r
def X8 (ch par:Int) (nm:ByteArray):Bool:=decide (1<=ch)&&decide (ch<=2147483647)&&decide (0<=par)&&decide (par<=2147483647)&&decide (nm.size<=64)&&SD nm
def oneV (m:Mv):Bool:=LO m.c m.r&&X8 m.ch m.par m.nm
def mayV (l:List Mv):Bool:=decide (l.length<=2000)&&(l.all oneV&&s8 AO l)
theorem Ek (ch par:Int) (nm:ByteArray) (x:IV):kG (.int .i64 ch) (.int .i64 par) (.str nm) x=some [.bool (X8 ch par nm)]:=by
 unfold kG X8
 simp only [sF,sB,rL,Option.bind_some,aQ]
 by_cases h1:1<=ch
 ·by_cases h2:ch<=2147483647
  ·by_cases h3:0<=par
   ·by_cases h4:par<=2147483647
    ·by_cases h5:nm.size<=64
     ·have:((nm.size:Int)<=64):=by omega
      simp [h1,h2,h3,h4,h5,this,Kx (show nm.size < 2 ^ 19 by omega)]
     ·have: ¬((nm.size:Int)<=64):=by omega
      simp [h1,h2,h3,h4,h5,this]
    ·simp [h1,h2,h3,h4]
   ·simp [h1,h2,h3]
  ·simp [h1,h2]
 ·simp [h1]
theorem MK (m:Mv):lk (.int .i64 m.c) (.int .i64 m.r) (.int .i64 m.par) (.int .i64 m.ch) (.str m.nm) (.flt .f64 m.rk)=some [.int .i64 m.ch,.int .i64 m.par,.str m.nm,.flt .f64 m.rk]:=by
 unfold lk;simp
theorem BI (m:Mv):ll (.int .i64 m.c) (.int .i64 m.r) (.int .i64 m.par) (.int .i64 m.ch) (.str m.nm) (.flt .f64 m.rk)=some [.int .i64 m.ch,.int .i64 m.par,.str m.nm,.flt .f64 m.rk]:=by
 unfold ll;simp
theorem sZ (m:Mv):iR (.int .i64 m.c) (.int .i64 m.r) (.int .i64 m.par) (.int .i64 m.ch) (.str m.nm) (.flt .f64 m.rk)=some [.bool (oneV m)]:=by
 unfold iR oneV LO
 simp only [BI,sF,sB,Option.bind_some,ag,aC,bV,bw,Ek,aQ]
 by_cases h1:1<=m.c
 ·by_cases h2:m.c<=4611686018427387903
  ·by_cases h3:1<=m.r
   ·by_cases h4:m.r<=255
    ·simp [h1,h2,h3,h4]
    ·simp [h1,h2,h3,h4]
   ·simp [h1,h2,h3]
  ·simp [h1,h2]
 ·simp [h1]
theorem L9: ∀{l:List Mv} {v:List Mark},MayP v->(∀m∈l,1<=m.c/\m.c<=4611686018427387903/\1<=m.r/\m.r<=255)->MayP (l.foldl (fun v m=>iW v m.c m.r) v)
 | [],v,hv,_=>hv
 | m::l,v,hv,h=>by
   have hm:=h m List.mem_cons_self
   exact L9 (l:=l) (hv.raise (c:=m.c) (r:=m.r) hm.2.2 hm.2.1) fun x hx=>h x (List.mem_cons_of_mem _ hx)
theorem HV (r:Int): ∀(l:List Mv) (v:List Mark),getM (l.foldl (fun v m=>iW v m.c m.r) v) r=l.foldl (fun n m=>if r=m.r then max n m.c else n) (getM v r)
 | [],v=>rfl
 | m::l,v=>by
   simp only [List.foldl_cons]
   rw [HV r l,zl]
   congr 1
   split
   ·rename_i e;rw [e]
   ·rfl
def supV (r:Int) (l:List Mv) (n:Int):Int:=l.foldl (fun n m=>if r=m.r then max n m.c else n) n
theorem Wr {l:List Mv} {n:Nat} (h:U9 l n=true):l.length<=n:=by
 unfold U9 at h
 simp only [Bool.and_eq_true,decide_eq_true_eq] at h
 exact h.1
end Go.AM
