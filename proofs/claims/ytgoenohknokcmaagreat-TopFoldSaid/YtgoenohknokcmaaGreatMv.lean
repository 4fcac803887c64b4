/- Moves, plainly: the program's functions and the references'. -/
import Derived.Test.YtgoenohknokcmaaGreatFl
open Option renaming bind_some->ab,map_some->ao
open List renaming getElem?_eq_some_iff->ad,length_map->aB,getElem?_eq_getElem->a1,mem_of_getElem?->a5,findIdx?_eq_some_iff_getElem->a7,pairwise_cons->a8,mem_cons->bb,getD_eq_getElem?_getD->bd,filter_cons->bm,mem_cons_of_mem->br,drop_succ_cons->bs,map_cons->bx,findIdx?_cons->bA,mem_cons_self->bB,any_eq_true->bC,filter->b5
open Bool renaming false_eq_true->a2,and_eq_true->bf,or_eq_true->bM,not_false->bR,false_or->b1,true_and->b2,not_true->b3,and_true->b4
open Int renaming ofNat_lt->a6,natCast_inj->bO
set_option linter.unusedVariables false
set_option linter.unusedSimpArgs false
namespace Go.AM
def abg (a b:Int):Int:=if a < b then -1 else if b < a then 1 else 0
theorem zl (a b:Int):eu (.int .i64 a) (.int .i64 b)=some [.int .i64 (abg a b)]:=by
 unfold eu jY abg
 simp only [dm,ab,ne_eq,not_true_eq_false,decide_false,dR,du,ao,af,ag,al,aQ,bj,wL]
 split
 ·rfl
 ·split<;>rfl
def acE (x:IV×Int):List IV:=[x.1]
def xH:List Int->Int
 | []=>0
 | x::l=>if x≠0 then x else xH l
theorem L8 {α:Type} {g:α->Int} {d:α}: ∀{l:List α},xH (l.map g)=match l.findIdx? (λx=>decide (g x≠0)) with | some i=>g (l.getD i d) | none=>0
 | []=>rfl
 | x::l=>by
   simp only [bx,xH,bA,decide_eq_true_eq]
   by_cases h:g x≠0
   ·simp [h]
   ·simp only [h,if_false]
    rw [L8 (d:=d)]
    cases l.findIdx? (λx=>decide (g x≠0))<;>simp
theorem NL {C:IV->List Nat->List (List IV)->Option (List IV)} {l:List (IV×Int)} (hl:l.length < 100) (f: ∀x∈l,C x.1 [1] []=some [.int .i64 x.2]):mn C (.lst (l.map acE))=some [.int .i64 (xH (l.map (·.2)))]:=by
 unfold mn
 simp only [aw,ab]
 rw [k9 (vs0:=[IV.int .i64 0]) (λi=>[IV.int .i64 (i:Int)]) (λx=>decide (x.2≠0)) 1 (λi=>[IV.int .i64 (l.getD i (.nilp,0)).2]) 0 [] l rfl (by have:=aO;omega),L8 (d:=(.nilp,0))]
 ·cases l.findIdx? (λx=>decide (x.2≠0))<;>simp
 ·intro i x a
  have hi:i < l.length:=(ad.1 a).1
  have hc:=f x (a5 a)
  have b:l.getD i (.nilp,0)=x:=by rw [bd,a];rfl
  have c:=ea (enc:=acE) (sz:=1) a rfl Nat.zero_lt_one
  have e:cV (.lst (l.map acE)) i 0=some x.1:=bX a
  unfold vD
  simp only [af,al,aB,a6,hi,decide_true,ah,ab,c,e,hc,dm,bj,au (show i < 2 ^ 62 by omega),b,decide_eq_true_eq]
  split<;>rfl
 ·unfold vD
  simp
theorem lx (c r c' a:Int):ft (.int .i64 c) (.int .i64 r) (.int .i64 c') (.int .i64 a)=some [.bool (befB c r c' a)]:=by
 unfold ft
 have h:=NL (C:=iW) (l:=[((.clo (.func jX) [(.ptr [.int .i64 c,.int .i64 r] 0),(.ptr [.int .i64 c',.int .i64 a] 0)]),abg c c'),((.clo (.func j8) [(.ptr [.int .i64 c,.int .i64 r] 0),(.ptr [.int .i64 c',.int .i64 a] 0)]),abg r a)]) (by simp) (by
  intro x d
  simp only [bb,List.not_mem_nil,or_false] at d
  rcases d with rfl | rfl
  ·show jW (.ptr [.int .i64 c,.int .i64 r] 0) (.ptr [.int .i64 c',.int .i64 a] 0)=_
   unfold jW
   simp [gr,iI,zl]
  ·show jP (.ptr [.int .i64 c,.int .i64 r] 0) (.ptr [.int .i64 c',.int .i64 a] 0)=_
   unfold jP
   simp [gr,iI,zl])
 simp only [bx,List.map_nil,acE] at h
 rw [h]
 simp only [ab,af,al,dR,du,ao]
 congr 3
 unfold befB abg xH xH xH
 refine Bool.eq_of_iff ?_
 simp only [decide_eq_true_eq,bM,bf]
 by_cases h1:c < c'
 ·simp [h1]
 ·by_cases h2:c' < c
  ·have: ¬c=c':=by omega
   simp [h1,h2,this]
  ·have:c=c':=by omega
   by_cases b:r < a
   ·simp [h1,h2,b,this]
   ·by_cases e:a < r<;>simp [h1,h2,b,e,this]
structure Key where
 c:Int
 r:Int
 ch:Int
 par:Int
 nm:List UInt8
 rk:Nat
 deriving DecidableEq
theorem QQ {a b:Nat} (c:a < 2 ^ 64) (hb:b < 2 ^ 64):qO (.flt .f64 a) (.flt .f64 b)=some [.bool (decide (bitsN a=bitsN b))]:=by
 unfold qO
 simp only [sF c,sF hb,ab,af,dI,dR,du,ao,bO]
theorem Ok {a b:Nat} (c:a < 2 ^ 64) (hb:b < 2 ^ 64):o9 (.flt .f64 a) (.flt .f64 b)=some [.bool (decide (bitsN a=bitsN b))]:=by
 unfold o9
 simp only [Cx c,Cx hb,ab,af,dI,dR,du,ao,bO]
theorem YJ (a b:ByteArray):aa .eql (.str a) (.str b)=some (.bool (decide (a.toList=b.toList))):=by
 show some (IV.bool (a.toList==b.toList))=_
 congr 2
 by_cases h:a.toList=b.toList<;>simp [h]
theorem Ni {ch par a par':Int} {nm b:ByteArray} {rk c:Nat} (h:rk < 2 ^ 64) (h':c < 2 ^ 64):kn (.int .i64 ch) (.int .i64 par) (.str nm) (.flt .f64 rk) (.int .i64 a) (.int .i64 par') (.str b) (.flt .f64 c)=some [.bool (decide (ch=a/\par=par'/\nm.toList=b.toList/\bitsN rk=bitsN c))]:=by
 unfold kn
 simp only [dI,YJ,Ok h h',ab,af,LU,dR,du,ao]
 congr 3
 by_cases h1:ch=a<;>by_cases h2:par=par'<;>by_cases d:nm.toList=b.toList<;>simp [h1,h2,d]
theorem any_keys {α β:Type} [DecidableEq β] {g:α->β}: ∀{a b:List α} {k:Nat},a.length=b.length-> ∀{b0:List α},(∀i,b0[k+i]? =b[i]?)->anyI (λi x=>decide ((b0[i]?).map g≠some (g x))) a k= !decide (a.map g=b.map g)
 | [],[],_,_,_,_=>by simp [anyI]
 | x::a,y::b,k,hl,b0,hb=>by
   have h0:=hb 0
   simp only [Nat.add_zero,List.getElem?_cons_zero] at h0
   simp only [anyI,bx,List.cons.injEq,h0,ao,ne_eq,Option.some.injEq]
   rw [any_keys (b:=b) (by simpa using hl) (λi=>by have:=hb (i+1);rw [show k+1+i=k+(i+1) by omega,this];simp)]
   by_cases h1:g x=g y
   ·have:g y=g x:=h1.symm
    by_cases h2:a.map g=b.map g<;>simp [h1,h2]
   ·have: ¬g y=g x:= λe=>h1 e.symm
    simp [h1,this]
theorem gB {f:List IV->Option SR} {vs:List IV} {k:Nat} {o:List IV} (n:Nat) (h:f vs=some (.done k o)):iter (n+1) f vs=some (k,o):=by
 simp only [iter,h,ab]
theorem I4 {α:Type} {f:List IV->Option SR} (enc:Nat->List IV) (bad:Nat->α->Bool) (d:Nat) (b:List IV) (g:Nat) (a:List IV) (l:List α) (k:Nat) (hk:k<=l.length) (hl:l.length < rounds)
  (hs: ∀i x,k<=i->l[i]? =some x->f (enc i)=some (if bad i x=true then .done d b else .next (enc (i+1)))) (he:f (enc l.length)=some (.done g a)):
  iter rounds f (enc k)=some (if anyI bad (l.drop k) k=true then (d,b) else (g,a)):=by
 have key: ∀(n k:Nat),k<=l.length->l.length - k < n->(∀i x,k<=i->l[i]? =some x->f (enc i)=some (if bad i x=true then .done d b else .next (enc (i+1))))->iter n f (enc k)=some (if anyI bad (l.drop k) k=true then (d,b) else (g,a)):=by
  intro n
  induction n with
  | zero=>intro k hk hn;omega
  | succ n ih=>
    intro k hk hn hs
    by_cases h:k=l.length
    ·subst h
     simp only [iter,he,ab,List.drop_length,anyI,a2,if_false]
    ·have c:k < l.length:=by omega
     have e:l[k]? =some l[k]:=a1 c
     rw [List.drop_eq_getElem_cons c]
     simp only [iter,hs k l[k] (Nat.le_refl _) e,ab,anyI]
     by_cases hb:bad k l[k]=true
     ·simp [hb]
     ·simp only [hb,if_false,a2,b1]
      exact ih (k+1) (by omega) (by omega) λi x hi e=>hs i x (by omega) e
 exact key rounds k hk (by omega) hs
theorem Lb {C:IV->List Nat->List (List IV)->Option (List IV)} {b:IV} {p:Mv->Bool} {l:List Mv} (hl:l.length < 2 ^ 16) (c: ∀x∈l,C b [1] [WC x]=some [.bool (p x)]):
  cy C (aZ l) b=some [.int .i64 (PK p l)]:=by
 unfold cy
 simp only [aw,ab]
 rw [k9 (vs0:=[IV.int .i64 0]) (λi=>[IV.int .i64 (i:Int)]) p 1 (λi=>[IV.int .i64 (i:Int)]) 0 [] l rfl (by have:=aO;omega)]
 ·unfold PK
  cases l.findIdx? p<;>simp
 ·intro i x a
  have hi:i < l.length:=(ad.1 a).1
  have hc:=c x (a5 a)
  unfold gY
  unfold WC at hc
  simp only [af,ai,ay,az,bG,bE,al,aB,a6,AY a,decide_true,ah,ab,hc,dc,au (show i < 2 ^ 62 by omega),if_true]
  cases p x<;>rfl
 ·unfold gY
  simp
theorem aab {α:Type} {R:α->α->Bool} {l:List α}:anyI (λi x=> !R (l.getD (i - 1) x) x) (l.drop 1) 1= !xb R l:=by
 rw [<-abx]
 cases l with
 | nil=>rfl
 | cons x l=>
   simp only [bs,List.drop_zero,anyI,Nat.lt_irrefl,decide_false,Bool.false_and,b1]
   have: ∀(m:List α) (k:Nat),0 < k->anyI (λi y=> !R ((x::l).getD (i - 1) y) y) m k=anyI (λi y=>decide (0 < i)&& !R ((x::l).getD (i - 1) y) y) m k:=by
    intro m
    induction m with
    | nil=>intro k _;rfl
    | cons y m ih=>intro k hk;simp only [anyI,hk,decide_true,b2];rw [ih (k+1) (by omega)]
   exact this l 1 (by omega)
theorem xo {l:List Mv} (hl:l.length < 2 ^ 16):ll (aZ l)=some [.bool (mayV l)]:=by
 unfold ll mayV
 have a:iter rounds (jN (aZ l)) [.int .i64 1]=some (if (!xb Aq l)=true then (1,[.bool false]) else (0,[])):=by
  by_cases h0:l=[]
  ·subst h0
   have:jN (aZ []) [.int .i64 1]=some (.done 0 []):=by unfold jN;simp
   exact gB 999999 this
  ·have b:1<=l.length:=by cases l with | nil=>exact absurd rfl h0 | cons x l=>simp
   have:=I4 (f:=jN (aZ l)) (λi=>[IV.int .i64 (i:Int)]) (λi x=> !Aq (l.getD (i - 1) x) x) 1 [.bool false] 0 [] l 1 b (by have:=aO;omega) (λi x e d=>by
    have hi:i < l.length:=(ad.1 d).1
    have hp:l[i - 1]? =some (l.getD (i - 1) x):=by
     rw [bd,a1 (by omega)];rfl
    unfold jN
    simp only [aw,af,ai,al,aB,a6,AY d,decide_true,ah,ab,sN (show i < 2 ^ 62 by omega) (show 0 < i by omega),AY hp,lx,aW,dc,au (show i < 2 ^ 62 by omega),Aq,if_true]
    by_cases hb:befB (l.getD (i - 1) x).c (l.getD (i - 1) x).r x.c x.r=true<;>simp only [hb,b3,bR,if_true,if_false,a2]) (by unfold jN;simp)
   rw [aab] at this
   exact this
 rw [a]
 by_cases had:xb Aq l=true
 ·simp only [had,b3,a2,if_false,ab,aN,aw,jU,aB,bj]
  by_cases h:l.length<=2000
  ·have hle:(l.length:Int)<=2000:=by omega
   unfold cD
   rw [Lb hl (p:= λm=> !oneV m)]
   ·simp only [hle,if_true,ab,af,de,Rq,dR,du,ao,aW,h,decide_true,b2,b4]
    have:(l.any λm=> !oneV m)= !l.all oneV:=by rw [List.any_eq_not_all_not];simp only [Bool.not_not]
    rw [this]
    cases l.all oneV<;>rfl
   ·intro x _
    show mW (.int .i64 x.c) (.int .i64 x.r) (.int .i64 x.par) (.int .i64 x.ch) (.str x.nm) (.flt .f64 x.rk)=_
    unfold mW
    simp [xw]
  ·have hle: ¬(l.length:Int)<=2000:=by omega
   simp [hle,h]
 ·simp [had]
def Tm (c r:Int) (m:Mv):Bool:=decide (m.c=c/\m.r=r)
def atV (l:List Mv) (m:Mv):Nat:=(l.findIdx? λx=>befB m.c m.r x.c x.r).getD l.length
def vu (l:List Mv) (m:Mv):List Mv:=if l.any (Tm m.c m.r)=true then l else l.take (atV l m)++[m]++l.drop (atV l m)
def agp (l:List Mv) (m:Mv):Nat:=match l.findIdx? (Tm m.c m.r) with | some i=>i | none=>atV l m
def E7 (l:List Mv) (m:Mv):Bool:= !l.any (Tm m.c m.r)
theorem abi (l:List Mv) (m:Mv):atV l m<=l.length:=by
 unfold atV
 cases h:l.findIdx? λx=>befB m.c m.r x.c x.r with
 | none=>exact Nat.le_refl _
 | some i=>exact Nat.le_of_lt (a7.1 h).1
theorem vb (l:List Mv) (m:Mv):(vu l m).length<=l.length+1:=by
 unfold vu
 split
 ·omega
 ·have:=abi l m;simp;omega
theorem Tj {l k:List Mv} (hl:l.length < 2 ^ 20) (hk:k.length < 2 ^ 20):b8 6 56 (aZ l) (aZ k)=some (aZ (l++k)):=by
 simp only [b8]
 rw [if_pos]
 ·simp
 ·refine ⟨by simp;omega,by simp [WC]⟩
theorem ZG {l:List Mv} (hl:l.length < 2 ^ 16) {i:Nat} (hi:i<=l.length) (m:Mv):ee (aZ l) (.int .i64 (i:Int)) (.lst [[.int .i64 m.c,.int .i64 m.r,.int .i64 m.par,.int .i64 m.ch,.str m.nm,.flt .f64 m.rk]])=some [aZ (l.take i++[m]++l.drop i)]:=by
 unfold ee
 simp only [sI]
 rw [if_pos]
 ·simp [WC]
 ·refine ⟨by omega,by simp;omega,by simp;omega,rfl⟩
theorem UZ {l:List Mv} (hl:l.length < 2 ^ 16):dz (aZ l)=some [aZ l]:=by
 unfold dz
 simp only [tJ]
 rw [if_pos]
 refine ⟨by simp;omega,by simp [WC,IV.scalar]⟩
theorem Yb {C:IV->List Nat->List (List IV)->Option (List IV)} {b:IV} {p:Mv->Bool} {l:List Mv} {c r:Int} (hl:l.length < 2 ^ 16) (d: ∀x∈l,C b [1] [[.int .i64 c,.int .i64 r],WC x]=some [.bool (p x)]):
  jI C (aZ l) (.int .i64 c) (.int .i64 r) b=some [.int .i64 (((l.findIdx? p).getD l.length:Nat):Int)]:=by
 unfold jI
 simp only [aw,ab]
 rw [k9 (vs0:=[IV.int .i64 0]) (λi=>[IV.int .i64 (i:Int)]) p 1 (λi=>[IV.int .i64 (i:Int)]) 0 [] l rfl (by have:=aO;omega)]
 ·cases l.findIdx? p<;>simp
 ·intro i x a
  have hi:i < l.length:=(ad.1 a).1
  have hc:=d x (a5 a)
  unfold vG
  unfold WC at hc
  simp only [af,ai,ay,az,bG,bE,al,aB,a6,AY a,decide_true,ah,ab,hc,dc,au (show i < 2 ^ 62 by omega),if_true]
  cases p x<;>rfl
 ·unfold vG
  simp
theorem yC {l:List Mv} (hl:l.length < 2 ^ 16) (m:Mv):iX (aZ l) (.int .i64 m.c) (.int .i64 m.r) (.int .i64 m.par) (.int .i64 m.ch) (.str m.nm) (.flt .f64 m.rk)=some [aZ (vu l m),.int .i64 (agp l m:Int),.bool (E7 l m)]:=by
 unfold iX
 rw [Yb hl (p:=Tm m.c m.r)]
 ·simp only [ab,af,aw,al,aB,a6,bj]
  unfold vu agp E7
  cases h:l.findIdx? (Tm m.c m.r) with
  | some i=>
    obtain ⟨hi,hp,_⟩:=a7.1 h
    have a:l.any (Tm m.c m.r)=true:=bC.2 ⟨l[i],List.getElem_mem hi,hp⟩
    simp [hi,a]
  | none=>
    have b:=List.findIdx?_eq_none_iff.1 h
    have a:l.any (Tm m.c m.r)=false:=by
     rw [List.any_eq_false];intro x d;rw [b x d];simp
    simp only [Option.getD_none,Nat.lt_irrefl,if_false,a,a2]
    rw [Yb hl (p:= λx=>befB m.c m.r x.c x.r)]
    ·have:=ZG hl (abi l m) m
     unfold atV at this ⊢
     simp only [ab,UZ hl,af,this,bR]
    ·intro x _
     show cS (.int .i64 m.c) (.int .i64 m.r) (.int .i64 x.c) (.int .i64 x.r) (.int .i64 x.par) (.int .i64 x.ch) (.str x.nm) (.flt .f64 x.rk)=_
     unfold cS
     simp [lx]
 ·intro x _
  show jT (.int .i64 m.c) (.int .i64 m.r) (.int .i64 x.c) (.int .i64 x.r) (.int .i64 x.par) (.int .i64 x.ch) (.str x.nm) (.flt .f64 x.rk)=_
  unfold jT Tm
  simp only [UC,MB,XH,if_true,ab,ao,b4,dR,du]
  congr 3
  by_cases h1:x.c=m.c<;>by_cases h2:x.r=m.r<;>simp [h1,h2]
def uniV (a b:List Mv):List Mv:=b.foldl vu a
theorem Ac {a b:List Mv} (e:a.length < 2 ^ 15) (hb:b.length < 2 ^ 15):fC (aZ a) (aZ b)=some [aZ (uniV a b)]:=by
 unfold fC uniV
 simp only [aw,ab]
 rw [kC (vs0:=[aZ a,.int .i64 0]) (λi (v:List Mv)=>[aZ v,.int .i64 (i:Int)]) vu 0 (λv=>[aZ v]) (λi v=>v.length<=a.length+i) b a rfl (by have:=aO;omega) (by simp)]
 ·simp
 ·intro i s x c d
  have hi:i < b.length:=(ad.1 c).1
  have:=vb s x
  refine ⟨by omega,?_⟩
  unfold s8
  simp only [af,ai,ay,az,bG,bE,al,aB,a6,AY c,decide_true,ah,ab,yC (show s.length < 2 ^ 16 by omega),au (show i < 2 ^ 62 by omega)]
 ·intro s _
  unfold s8
  simp
def oy (l:List Mv) (c r:Int):List Mv:=l.filter λm=>befB c r m.c m.r
theorem fold_filter {α:Type} (p:α->Bool): ∀(l k:List α),l.foldl (λs x=>if p x=true then s++[x] else s) k=k++l.filter p
 | [],k=>by simp
 | x::l,k=>by
   simp only [List.foldl_cons,bm]
   rw [fold_filter]
   split<;>simp
theorem Aw {l:List Mv} (hl:l.length < 2 ^ 16) (c r:Int):ky (aZ l) (.int .i64 c) (.int .i64 r)=some [aZ (oy l c r)]:=by
 unfold ky
 simp only [aw,ab]
 rw [kC (vs0:=[.lst [],.int .i64 0]) (λi (v:List Mv)=>[aZ v,.int .i64 (i:Int)]) (λs m=>if befB c r m.c m.r=true then s++[m] else s) 0 (λv=>[aZ v]) (λi v=>v.length<=i) l [] rfl (by have:=aO;omega) (by simp)]
 ·rw [fold_filter (λm:Mv=>befB c r m.c m.r)]
  simp [oy]
 ·intro i s x a d
  have hi:i < l.length:=(ad.1 a).1
  refine ⟨by split;(simp;omega);omega,?_⟩
  have b:IV.lst [[.int .i64 x.c,.int .i64 x.r,.int .i64 x.par,.int .i64 x.ch,.str x.nm,.flt .f64 x.rk]]=aZ [x]:=rfl
  unfold ud cS
  simp only [af,ai,ay,az,bG,bE,al,aB,a6,AY a,decide_true,ah,ab,lx,dR,du,ao,dc,au (show i < 2 ^ 62 by omega),b,Tj (show s.length < 2 ^ 20 by omega) (show [x].length < 2 ^ 20 by simp)]
  cases befB c r x.c x.r<;>rfl
 ·intro s _
  unfold ud
  simp
end Go.AM
namespace Go.AM
theorem ShOK.list_invP {α:Type} {enc:α->List IV} {Q:α->Prop} {L:List Sh} (hinv: ∀e,Typed L e-> ∃x,e=enc x/\Q x) {c:IV} (h:ShOK (.slc L) c): ∃l:List α,c= .lst (l.map enc)/\ ∀x∈l,Q x:=by
 cases h with
 | slc _ es hl h1 h2=>
   have: ∀e∈es,∃x,e=enc x/\Q x:= λe he=>by
    obtain ⟨i,hi⟩:=List.getElem?_of_mem he
    exact hinv e ⟨h1 e he,λj s c hs hc=>h2 i j e c s hi hc hs⟩
   have key: ∀(es:List (List IV)),(∀e∈es,∃x,e=enc x/\Q x)-> ∃l:List α,es=l.map enc/\ ∀x∈l,Q x:=by
    intro es
    induction es with
    | nil=>intro _;exact ⟨[],rfl,λx a=>by simp at a⟩
    | cons e es ih=>
      intro h
      obtain ⟨x,rfl,a⟩:=h e bB
      obtain ⟨l,rfl,hl⟩:=ih λe he=>h e (br _ he)
      exact ⟨x::l,rfl,λy b=>by
       rcases bb.1 b with rfl | b
       ·exact a
       ·exact hl y b⟩
   obtain ⟨l,rfl,d⟩:=key es this
   exact ⟨l,rfl,d⟩
theorem gO {c r c' a:Int}:befB c r c' a=true↔c < c'\/(c=c'/\r < a):=by
 unfold befB;simp only [bM,bf,decide_eq_true_eq]
theorem AB {a b:Mv}:Aq a b=true↔a.c < b.c\/(a.c=b.c/\a.r < b.r):=gO
theorem MG {a b c:Mv} (h:Aq a b=true) (k:Aq b c=true):Aq a c=true:=by
 rw [AB] at*;omega
def sf (l:List Mv):Prop:=l.Pairwise λa b=>Aq a b=true
theorem WW {l:List Mv}:xb Aq l=true↔sf l:=by
 rw [Fv]
 constructor
 ·intro h
  exact yH (R:= λa b=>Aq a b=true) (λa b c=>MG) λi hi=>h i l[i] l[i+1] (a1 (by omega)) (a1 hi)
 ·intro h i x y d e
  obtain ⟨h1,rfl⟩:=ad.1 d
  obtain ⟨h2,rfl⟩:=ad.1 e
  exact List.pairwise_iff_getElem.1 h i (i+1) h1 h2 (by omega)
def I8 (m:Mv):List Mv->List Mv
 | []=>[m]
 | x::l=>if Aq m x=true then m::x::l else x::I8 m l
theorem Yr (m:Mv): ∀l:List Mv,l.take (atV l m)++[m]++l.drop (atV l m)=I8 m l
 | []=>rfl
 | x::l=>by
   have ih:=Yr m l
   unfold atV at ih ⊢
   simp only [bA,I8]
   by_cases h:Aq m x=true
   ·have h':befB m.c m.r x.c x.r=true:=h
    simp [h,h']
   ·have h': ¬befB m.c m.r x.c x.r=true:=h
    simp only [h',if_false,h]
    rw [<-ih]
    cases l.findIdx? (λx=>befB m.c m.r x.c x.r)<;>simp
theorem S1 {l:List Mv} {m:Mv}:vu l m=if l.any (Tm m.c m.r)=true then l else I8 m l:=by
 unfold vu;rw [Yr]
theorem LQ {m:Mv}: ∀{l:List Mv} {x:Mv},x∈I8 m l↔x=m\/x∈l
 | [],x=>by simp [I8]
 | y::l,x=>by
   simp only [I8]
   split
   ·simp
   ·simp only [bb,LQ]
    constructor
    ·rintro (h | h | h)<;>simp [h]
    ·rintro (h | h | h)<;>simp [h]
theorem Ii {m:Mv}: ∀{l:List Mv},sf l->(∀x∈l,¬(x.c=m.c/\x.r=m.r))->sf (I8 m l)
 | [],_,_=>List.pairwise_singleton _ _
 | x::l,h,hn=>by
   obtain ⟨h1,h2⟩:=a8.1 h
   have b:=hn x bB
   simp only [I8]
   split
   ·rename_i hb
    refine a8.2 ⟨λy a=> ?_,h⟩
    rcases bb.1 a with rfl | a
    ·exact hb
    ·exact MG hb (h1 y a)
   ·rename_i hb
    refine a8.2 ⟨λy a=> ?_,Ii h2 λy a=>hn y (br _ a)⟩
    rcases LQ.1 a with rfl | a
    ·rw [AB] at hb ⊢;omega
    ·exact h1 y a
theorem aal {l:List Mv} {c r:Int}:l.any (Tm c r)=true↔ ∃x∈l,x.c=c/\x.r=r:=by
 rw [bC]
 simp only [Tm,decide_eq_true_eq]
theorem V8 {l:List Mv} {m:Mv} (h:sf l):sf (vu l m):=by
 rw [S1]
 split
 ·exact h
 ·rename_i hn
  exact Ii h λx a e=>hn (aal.2 ⟨x,a,e⟩)
theorem Eu {l:List Mv} {m x:Mv} (h:x∈vu l m):x=m\/x∈l:=by
 rw [S1] at h
 split at h
 ·exact .inr h
 ·exact LQ.1 h
theorem jL {l:List Mv}:mayV l=true↔l.length<=2000/\(∀m∈l,oneV m=true)/\sf l:=by
 unfold mayV
 simp only [bf,decide_eq_true_eq,List.all_eq_true,WW]
end Go.AM
namespace Go.AM
theorem LM {l:List Mv} (h:sf l) (c r:Int):oy l c r=l.drop (l.length - (oy l c r).length)/\ ∀i x,l[i]? =some x->(befB c r x.c x.r=decide (l.length - (oy l c r).length<=i)):=by
 induction l with
 | nil=>exact ⟨rfl,λi x a=>by simp at a⟩
 | cons y l ih=>
   obtain ⟨h1,h2⟩:=a8.1 h
   obtain ⟨i1,i2⟩:=ih h2
   have hle:(oy l c r).length<=l.length:=List.length_filter_le _ _
   by_cases b:befB c r y.c y.r=true
   ·have d:oy l c r=l:=List.filter_eq_self.2 λx a=>by
     have:=h1 x a
     rw [AB] at this
     rw [gO] at b ⊢
     omega
    have hs:oy (y::l) c r=y::l:=by
     show b5 _ _=_
     rw [bm,if_pos b]
     congr 1
    rw [hs]
    refine ⟨by simp,λi x a=> ?_⟩
    have:befB c r x.c x.r=true:=by
     rcases bb.1 (a5 a) with rfl | hm
     ·exact b
     ·have:=h1 x hm
      rw [AB] at this
      rw [gO] at b ⊢
      omega
    rw [this];simp
   ·have hs:oy (y::l) c r=oy l c r:=by
     show b5 _ _=_
     rw [bm,if_neg b]
     rfl
    rw [hs]
    have e:(y::l).length - (oy l c r).length=(l.length - (oy l c r).length)+1:=by simp;omega
    rw [e]
    refine ⟨by rw [bs];exact i1,λi x a=> ?_⟩
    cases i with
    | zero=>
      cases a
      simp only [Bool.not_eq_true] at b
      rw [b];simp
    | succ i=>
      rw [i2 i x (by simpa using a)]
      exact decide_eq_decide.2 (by omega)
end Go.AM
