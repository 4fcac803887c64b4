/- Moves, plainly: the program's functions and the references'. -/
import Derived.Test.YtgoenohknokcmaaGreatFl
open Option renaming bind_some->ab,map_some->ao
open List renaming getElem?_eq_some_iff->ad,length_map->aB,getElem?_eq_getElem->a1,mem_of_getElem?->a2,findIdx?_eq_some_iff_getElem->a7,getD_eq_getElem?_getD->a8,pairwise_cons->bb,mem_cons->bd,mem_cons_of_mem->bm,map_cons->br,findIdx?_cons->bs,mem_cons_self->bx,any_eq_true->bA
open Bool renaming false_eq_true->a5,and_eq_true->bf,or_eq_true->bB,not_false->bM,false_or->bO,true_and->bR,not_true->b1,and_true->b2
open Int renaming ofNat_lt->a6,natCast_inj->bC
set_option linter.unusedVariables false
set_option linter.unusedSimpArgs false
namespace Go.AM
def abj (a b:Int):Int:=if a < b then -1 else if b < a then 1 else 0
theorem zT (a b:Int):eC (.int .i64 a) (.int .i64 b)=some [.int .i64 (abj a b)]:=by
 unfold eC kb abj
 simp only [di,ab,ne_eq,not_true_eq_false,decide_false,df,cX,ao,af,ag,al,aW,aZ,xg]
 split
 ·rfl
 ·split<;>rfl
def adz (x:IV×Int):List IV:=[x.1]
def xM:List Int->Int
 | []=>0
 | x::l=>if x≠0 then x else xM l
theorem LO {α:Type} {g:α->Int} {d:α}: ∀{l:List α},xM (l.map g)=match l.findIdx? (λx=>decide (g x≠0)) with | some i=>g (l.getD i d) | none=>0
 | []=>rfl
 | x::l=>by
   simp only [br,xM,bs,decide_eq_true_eq]
   by_cases h:g x≠0
   ·simp [h]
   ·simp only [h,if_false]
    rw [LO (d:=d)]
    cases l.findIdx? (λx=>decide (g x≠0))<;>simp
theorem PG {C:IV->List Nat->List (List IV)->Option (List IV)} {l:List (IV×Int)} (hl:l.length < 100) (f: ∀x∈l,C x.1 [1] []=some [.int .i64 x.2]):my C (.lst (l.map adz))=some [.int .i64 (xM (l.map (·.2)))]:=by
 unfold my
 simp only [aw,ab]
 rw [lP (vs0:=[IV.int .i64 0]) (λi=>[IV.int .i64 (i:Int)]) (λx=>decide (x.2≠0)) 1 (λi=>[IV.int .i64 (l.getD i (.nilp,0)).2]) 0 [] l rfl (by have:=aI;omega),LO (d:=(.nilp,0))]
 ·cases l.findIdx? (λx=>decide (x.2≠0))<;>simp
 ·intro i x a
  have hi:i < l.length:=(ad.1 a).1
  have hc:=f x (a2 a)
  have b:l.getD i (.nilp,0)=x:=by rw [a8,a];rfl
  have c:=ea (enc:=adz) (sz:=1) a rfl Nat.zero_lt_one
  have e:dU (.lst (l.map adz)) i 0=some x.1:=b8 a
  unfold wc
  simp only [af,al,aB,a6,hi,decide_true,ah,ab,c,e,hc,di,aZ,au (show i < 2 ^ 62 by omega),b,decide_eq_true_eq]
  split<;>rfl
 ·unfold wc
  simp
theorem lN (c r c' a:Int):fw (.int .i64 c) (.int .i64 r) (.int .i64 c') (.int .i64 a)=some [.bool (befB c r c' a)]:=by
 unfold fw
 have h:=PG (C:=iW) (l:=[((.clo (.func j8) [(.ptr [.int .i64 c,.int .i64 r] 0),(.ptr [.int .i64 c',.int .i64 a] 0)]),abj c c'),((.clo (.func jW) [(.ptr [.int .i64 c,.int .i64 r] 0),(.ptr [.int .i64 c',.int .i64 a] 0)]),abj r a)]) (by simp) (by
  intro x d
  simp only [bd,List.not_mem_nil,or_false] at d
  rcases d with rfl | rfl
  ·show kl (.ptr [.int .i64 c,.int .i64 r] 0) (.ptr [.int .i64 c',.int .i64 a] 0)=_
   unfold kl
   simp [gu,iM,zT]
  ·show kc (.ptr [.int .i64 c,.int .i64 r] 0) (.ptr [.int .i64 c',.int .i64 a] 0)=_
   unfold kc
   simp [gu,iM,zT])
 simp only [br,List.map_nil,adz] at h
 rw [h]
 simp only [ab,af,al,df,cX,ao]
 congr 3
 unfold befB abj xM xM xM
 refine Bool.eq_of_iff ?_
 simp only [decide_eq_true_eq,bB,bf]
 by_cases h1:c < c'
 ·simp [h1]
 ·by_cases h2:c' < c
  ·have: ¬c=c':=by omega
   simp [h1,h2,this]
  ·have:c=c':=by omega
   by_cases b:r < a
   ·simp [h1,h2,b,this]
   ·by_cases e:a < r<;>simp [h1,h2,b,e,this]
structure Key where
 c:Int
 r:Int
 ch:Int
 par:Int
 nm:List UInt8
 rk:Nat
 deriving DecidableEq
def Eh (m:Mv):Key:=⟨m.c,m.r,m.ch,m.par,m.nm.toList,bitsN m.rk⟩
def afP (l:List Mv):Prop:= ∀m∈l,m.rk < 2 ^ 64
theorem S5 {a b:Nat} (c:a < 2 ^ 64) (hb:b < 2 ^ 64):rf (.flt .f64 a) (.flt .f64 b)=some [.bool (decide (bitsN a=bitsN b))]:=by
 unfold rf
 simp only [sN c,sN hb,ab,af,dP,df,cX,ao,bC]
theorem OJ {a b:Nat} (c:a < 2 ^ 64) (hb:b < 2 ^ 64):pC (.flt .f64 a) (.flt .f64 b)=some [.bool (decide (bitsN a=bitsN b))]:=by
 unfold pC
 simp only [CP c,CP hb,ab,af,dP,df,cX,ao,bC]
theorem aag (a b:ByteArray):aa .eql (.str a) (.str b)=some (.bool (decide (a.toList=b.toList))):=by
 show some (IV.bool (a.toList==b.toList))=_
 congr 2
 by_cases h:a.toList=b.toList<;>simp [h]
theorem AB {ch par a par':Int} {nm b:ByteArray} {rk c:Nat} (h:rk < 2 ^ 64) (h':c < 2 ^ 64):ig (.int .i64 ch) (.int .i64 par) (.str nm) (.flt .f64 rk) (.int .i64 a) (.int .i64 par') (.str b) (.flt .f64 c)=some [.bool (decide (ch=a/\par=par'/\nm.toList=b.toList/\bitsN rk=bitsN c))]:=by
 unfold ig
 simp only [dP,aag,OJ h h',ab,af,Fu,df,cX,ao]
 congr 3
 by_cases h1:ch=a<;>by_cases h2:par=par'<;>by_cases d:nm.toList=b.toList<;>simp [h1,h2,d]
theorem L6 {a b:Mv} (h:a.rk < 2 ^ 64) (h':b.rk < 2 ^ 64):nG (.int .i64 a.c) (.int .i64 a.r) (.int .i64 a.par) (.int .i64 a.ch) (.str a.nm) (.flt .f64 a.rk) (.int .i64 b.c) (.int .i64 b.r) (.int .i64 b.par) (.int .i64 b.ch) (.str b.nm) (.flt .f64 b.rk)=some [.bool (decide (Eh a=Eh b))]:=by
 unfold nG Eh
 simp only [RO,HO,Hb,SW,if_true,ab,ao,af,ai,ay,az,AB h h',Fu,df,cX]
 congr 3
 by_cases h1:a.c=b.c<;>by_cases h2:a.r=b.r<;>simp [h1,h2,Key.mk.injEq]
def QK (a b:List Mv):Bool:=decide (a.map Eh=b.map Eh)
theorem any_keys {α β:Type} [DecidableEq β] {g:α->β}: ∀{a b:List α} {k:Nat},a.length=b.length-> ∀{b0:List α},(∀i,b0[k+i]? =b[i]?)->anyI (λi x=>decide ((b0[i]?).map g≠some (g x))) a k= !decide (a.map g=b.map g)
 | [],[],_,_,_,_=>by simp [anyI]
 | x::a,y::b,k,hl,b0,hb=>by
   have h0:=hb 0
   simp only [Nat.add_zero,List.getElem?_cons_zero] at h0
   simp only [anyI,br,List.cons.injEq,h0,ao,ne_eq,Option.some.injEq]
   rw [any_keys (b:=b) (by simpa using hl) (λi=>by have:=hb (i+1);rw [show k+1+i=k+(i+1) by omega,this];simp)]
   by_cases h1:g x=g y
   ·have:g y=g x:=h1.symm
    by_cases h2:a.map g=b.map g<;>simp [h1,h2]
   ·have: ¬g y=g x:= λe=>h1 e.symm
    simp [h1,this]
theorem OI {a b:List Mv} (j:a.length < 2 ^ 16) (d:afP a) (f:afP b):pI (bg a) (bg b)=some [.bool (QK a b)]:=by
 unfold pI QK
 simp only [aw,ab,di,aB,aZ]
 by_cases hlen:a.length=b.length
 ·rw [if_neg (by omega)]
  rw [qI (vs0:=[.int .i64 0]) (λi=>[IV.int .i64 (i:Int)]) (λi x=>decide ((b[i]?).map Eh≠some (Eh x))) 1 [.bool false] 0 [] a rfl (by have:=aI;omega),any_keys hlen (b0:=b) (λi=>by rw [Nat.zero_add])]
  ·by_cases h:a.map Eh=b.map Eh<;>simp [h]
  ·intro i x g
   have hi:i < a.length:=(ad.1 g).1
   have c:b[i]? =some (b[i]'(by omega)):=a1 (by omega)
   generalize b[i]'(by omega)=y at c
   have hk:=L6 (d x (a2 g)) (f y (a2 c))
   unfold wa
   simp only [aw,ab,af,ai,ay,az,bH,bL,al,aB,a6,uX g,uX c,decide_true,ah,hk,aX,cm,au (show i < 2 ^ 62 by omega),c,ao,if_true]
   by_cases h:Eh x=Eh y
   ·simp [h]
   ·have: ¬Eh y=Eh x:= λe=>h e.symm
    simp [h,this]
  ·unfold wa
   simp
 ·rw [if_pos (by omega)]
  have: ¬a.map Eh=b.map Eh:= λh=>hlen (by have:=congrArg List.length h;simpa using this)
  simp [this]
theorem fL {f:List IV->Option SR} {vs:List IV} {k:Nat} {o:List IV} (n:Nat) (h:f vs=some (.done k o)):iter (n+1) f vs=some (k,o):=by
 simp only [iter,h,ab]
theorem J6 {α:Type} {f:List IV->Option SR} (enc:Nat->List IV) (bad:Nat->α->Bool) (d:Nat) (b:List IV) (g:Nat) (a:List IV) (l:List α) (k:Nat) (hk:k<=l.length) (hl:l.length < rounds)
  (hs: ∀i x,k<=i->l[i]? =some x->f (enc i)=some (if bad i x=true then .done d b else .next (enc (i+1)))) (he:f (enc l.length)=some (.done g a)):
  iter rounds f (enc k)=some (if anyI bad (l.drop k) k=true then (d,b) else (g,a)):=by
 have key: ∀(n k:Nat),k<=l.length->l.length - k < n->(∀i x,k<=i->l[i]? =some x->f (enc i)=some (if bad i x=true then .done d b else .next (enc (i+1))))->iter n f (enc k)=some (if anyI bad (l.drop k) k=true then (d,b) else (g,a)):=by
  intro n
  induction n with
  | zero=>intro k hk hn;omega
  | succ n ih=>
    intro k hk hn hs
    by_cases h:k=l.length
    ·subst h
     simp only [iter,he,ab,List.drop_length,anyI,a5,if_false]
    ·have c:k < l.length:=by omega
     have e:l[k]? =some l[k]:=a1 c
     rw [List.drop_eq_getElem_cons c]
     simp only [iter,hs k l[k] (Nat.le_refl _) e,ab,anyI]
     by_cases hb:bad k l[k]=true
     ·simp [hb]
     ·simp only [hb,if_false,a5,bO]
      exact ih (k+1) (by omega) (by omega) λi x hi e=>hs i x (by omega) e
 exact key rounds k hk (by omega) hs
theorem Nn {C:IV->List Nat->List (List IV)->Option (List IV)} {b:IV} {p:Mv->Bool} {l:List Mv} (hl:l.length < 2 ^ 16) (c: ∀x∈l,C b [1] [eMv x]=some [.bool (p x)]):
  cz C (bg l) b=some [.int .i64 (QT p l)]:=by
 unfold cz
 simp only [aw,ab]
 rw [lP (vs0:=[IV.int .i64 0]) (λi=>[IV.int .i64 (i:Int)]) p 1 (λi=>[IV.int .i64 (i:Int)]) 0 [] l rfl (by have:=aI;omega)]
 ·unfold QT
  cases l.findIdx? p<;>simp
 ·intro i x a
  have hi:i < l.length:=(ad.1 a).1
  have hc:=c x (a2 a)
  unfold g9
  unfold eMv at hc
  simp only [af,ai,ay,az,bH,bL,al,aB,a6,uX a,decide_true,ah,ab,hc,cm,au (show i < 2 ^ 62 by omega),if_true]
  cases p x<;>rfl
 ·unfold g9
  simp
theorem aaX {α:Type} {R:α->α->Bool} {l:List α}:anyI (λi x=> !R (l.getD (i - 1) x) x) (l.drop 1) 1= !xY R l:=by
 rw [<-abC]
 cases l with
 | nil=>rfl
 | cons x l=>
   simp only [List.drop_succ_cons,List.drop_zero,anyI,Nat.lt_irrefl,decide_false,Bool.false_and,bO]
   have: ∀(m:List α) (k:Nat),0 < k->anyI (λi y=> !R ((x::l).getD (i - 1) y) y) m k=anyI (λi y=>decide (0 < i)&& !R ((x::l).getD (i - 1) y) y) m k:=by
    intro m
    induction m with
    | nil=>intro k _;rfl
    | cons y m ih=>intro k hk;simp only [anyI,hk,decide_true,bR];rw [ih (k+1) (by omega)]
   exact this l 1 (by omega)
theorem yd {l:List Mv} (hl:l.length < 2 ^ 16):ma (bg l)=some [.bool (mayV l)]:=by
 unfold ma mayV
 have a:iter rounds (jG (bg l)) [.int .i64 1]=some (if (!xY FP l)=true then (1,[.bool false]) else (0,[])):=by
  by_cases h0:l=[]
  ·subst h0
   have:jG (bg []) [.int .i64 1]=some (.done 0 []):=by unfold jG;simp
   exact fL 999999 this
  ·have b:1<=l.length:=by cases l with | nil=>exact absurd rfl h0 | cons x l=>simp
   have:=J6 (f:=jG (bg l)) (λi=>[IV.int .i64 (i:Int)]) (λi x=> !FP (l.getD (i - 1) x) x) 1 [.bool false] 0 [] l 1 b (by have:=aI;omega) (λi x e d=>by
    have hi:i < l.length:=(ad.1 d).1
    have hp:l[i - 1]? =some (l.getD (i - 1) x):=by
     rw [a8,a1 (by omega)];rfl
    unfold jG
    simp only [aw,af,ai,al,aB,a6,uX d,decide_true,ah,ab,s9 (show i < 2 ^ 62 by omega) (show 0 < i by omega),uX hp,lN,aX,cm,au (show i < 2 ^ 62 by omega),FP,if_true]
    by_cases hb:befB (l.getD (i - 1) x).c (l.getD (i - 1) x).r x.c x.r=true<;>simp only [hb,b1,bM,if_true,if_false,a5]) (by unfold jG;simp)
   rw [aaX] at this
   exact this
 rw [a]
 by_cases had:xY FP l=true
 ·simp only [had,b1,a5,if_false,ab,aJ,aw,gG,aB,aZ]
  by_cases h:l.length<=2000
  ·have hle:(l.length:Int)<=2000:=by omega
   unfold cF
   rw [Nn hl (p:= λm=> !oneV m)]
   ·simp only [hle,if_true,ab,af,dw,Tb,df,cX,ao,aX,h,decide_true,bR,b2]
    have:(l.any λm=> !oneV m)= !l.all oneV:=by rw [List.any_eq_not_all_not];simp only [Bool.not_not]
    rw [this]
    cases l.all oneV<;>rfl
   ·intro x _
    show m4 (.int .i64 x.c) (.int .i64 x.r) (.int .i64 x.par) (.int .i64 x.ch) (.str x.nm) (.flt .f64 x.rk)=_
    unfold m4
    simp [yq]
  ·have hle: ¬(l.length:Int)<=2000:=by omega
   simp [hle,h]
 ·simp [had]
def tmB (c r:Int) (m:Mv):Bool:=decide (m.c=c/\m.r=r)
def atV (l:List Mv) (m:Mv):Nat:=(l.findIdx? λx=>befB m.c m.r x.c x.r).getD l.length
def HX (l:List Mv) (m:Mv):List Mv:=if l.any (tmB m.c m.r)=true then l else l.take (atV l m)++[m]++l.drop (atV l m)
def agW (l:List Mv) (m:Mv):Nat:=match l.findIdx? (tmB m.c m.r) with | some i=>i | none=>atV l m
def ab6 (l:List Mv) (m:Mv):Bool:= !l.any (tmB m.c m.r)
theorem acR (l:List Mv) (m:Mv):atV l m<=l.length:=by
 unfold atV
 cases h:l.findIdx? λx=>befB m.c m.r x.c x.r with
 | none=>exact Nat.le_refl _
 | some i=>exact Nat.le_of_lt (a7.1 h).1
theorem zN (l:List Mv) (m:Mv):(HX l m).length<=l.length+1:=by
 unfold HX
 split
 ·omega
 ·have:=acR l m;simp;omega
theorem SX {l k:List Mv} (hl:l.length < 2 ^ 20) (hk:k.length < 2 ^ 20):bU 6 56 (bg l) (bg k)=some (bg (l++k)):=by
 simp only [bU]
 rw [if_pos]
 ·simp
 ·refine ⟨by simp;omega,by simp [eMv]⟩
theorem ZW {l:List Mv} (hl:l.length < 2 ^ 16) {i:Nat} (hi:i<=l.length) (m:Mv):ef (bg l) (.int .i64 (i:Int)) (.lst [[.int .i64 m.c,.int .i64 m.r,.int .i64 m.par,.int .i64 m.ch,.str m.nm,.flt .f64 m.rk]])=some [bg (l.take i++[m]++l.drop i)]:=by
 unfold ef
 simp only [sP]
 rw [if_pos]
 ·simp [eMv]
 ·refine ⟨by omega,by simp;omega,by simp;omega,rfl⟩
theorem aaV {l:List Mv} (hl:l.length < 2 ^ 16):fh (bg l)=some [bg l]:=by
 unfold fh
 simp only [ux]
 rw [if_pos]
 refine ⟨by simp;omega,by simp [eMv,IV.scalar]⟩
theorem Ze {C:IV->List Nat->List (List IV)->Option (List IV)} {b:IV} {p:Mv->Bool} {l:List Mv} {c r:Int} (hl:l.length < 2 ^ 16) (d: ∀x∈l,C b [1] [[.int .i64 c,.int .i64 r],eMv x]=some [.bool (p x)]):
  jJ C (bg l) (.int .i64 c) (.int .i64 r) b=some [.int .i64 (((l.findIdx? p).getD l.length:Nat):Int)]:=by
 unfold jJ
 simp only [aw,ab]
 rw [lP (vs0:=[IV.int .i64 0]) (λi=>[IV.int .i64 (i:Int)]) p 1 (λi=>[IV.int .i64 (i:Int)]) 0 [] l rfl (by have:=aI;omega)]
 ·cases l.findIdx? p<;>simp
 ·intro i x a
  have hi:i < l.length:=(ad.1 a).1
  have hc:=d x (a2 a)
  unfold vQ
  unfold eMv at hc
  simp only [af,ai,ay,az,bH,bL,al,aB,a6,uX a,decide_true,ah,ab,hc,cm,au (show i < 2 ^ 62 by omega),if_true]
  cases p x<;>rfl
 ·unfold vQ
  simp
theorem J9 {l:List Mv} (hl:l.length < 2 ^ 16) (m:Mv):lH (bg l) (.int .i64 m.c) (.int .i64 m.r) (.int .i64 m.par) (.int .i64 m.ch) (.str m.nm) (.flt .f64 m.rk)=some [bg (HX l m),.int .i64 (agW l m:Int),.bool (ab6 l m)]:=by
 unfold lH
 rw [Ze hl (p:=tmB m.c m.r)]
 ·simp only [ab,af,aw,al,aB,a6,aZ]
  unfold HX agW ab6
  cases h:l.findIdx? (tmB m.c m.r) with
  | some i=>
    obtain ⟨hi,hp,_⟩:=a7.1 h
    have a:l.any (tmB m.c m.r)=true:=bA.2 ⟨l[i],List.getElem_mem hi,hp⟩
    simp [hi,a]
  | none=>
    have b:=List.findIdx?_eq_none_iff.1 h
    have a:l.any (tmB m.c m.r)=false:=by
     rw [List.any_eq_false];intro x d;rw [b x d];simp
    simp only [Option.getD_none,Nat.lt_irrefl,if_false,a,a5]
    rw [Ze hl (p:= λx=>befB m.c m.r x.c x.r)]
    ·have:=ZW hl (acR l m) m
     unfold atV at this ⊢
     simp only [ab,aaV hl,af,this,bM]
    ·intro x _
     show cT (.int .i64 m.c) (.int .i64 m.r) (.int .i64 x.c) (.int .i64 x.r) (.int .i64 x.par) (.int .i64 x.ch) (.str x.nm) (.flt .f64 x.rk)=_
     unfold cT
     simp [lN]
 ·intro x _
  show kf (.int .i64 m.c) (.int .i64 m.r) (.int .i64 x.c) (.int .i64 x.r) (.int .i64 x.par) (.int .i64 x.ch) (.str x.nm) (.flt .f64 x.rk)=_
  unfold kf tmB
  simp only [HO,Hb,SW,if_true,ab,ao,b2,df,cX]
  congr 3
  by_cases h1:x.c=m.c<;>by_cases h2:x.r=m.r<;>simp [h1,h2]
def uniV (a b:List Mv):List Mv:=b.foldl HX a
def CH (l:List Mv) (c r:Int):List Mv:=l.filter λm=>befB c r m.c m.r
theorem fold_filter {α:Type} (p:α->Bool): ∀(l k:List α),l.foldl (λs x=>if p x=true then s++[x] else s) k=k++l.filter p
 | [],k=>by simp
 | x::l,k=>by
   simp only [List.foldl_cons,List.filter_cons]
   rw [fold_filter]
   split<;>simp
theorem AK {l:List Mv} (hl:l.length < 2 ^ 16) (c r:Int):ko (bg l) (.int .i64 c) (.int .i64 r)=some [bg (CH l c r)]:=by
 unfold ko
 simp only [aw,ab]
 rw [mI (vs0:=[.lst [],.int .i64 0]) (λi (v:List Mv)=>[bg v,.int .i64 (i:Int)]) (λs m=>if befB c r m.c m.r=true then s++[m] else s) 0 (λv=>[bg v]) (λi v=>v.length<=i) l [] rfl (by have:=aI;omega) (by simp)]
 ·rw [fold_filter (λm:Mv=>befB c r m.c m.r)]
  simp [CH]
 ·intro i s x a d
  have hi:i < l.length:=(ad.1 a).1
  refine ⟨by split;(simp;omega);omega,?_⟩
  have b:IV.lst [[.int .i64 x.c,.int .i64 x.r,.int .i64 x.par,.int .i64 x.ch,.str x.nm,.flt .f64 x.rk]]=bg [x]:=rfl
  unfold uq cT
  simp only [af,ai,ay,az,bH,bL,al,aB,a6,uX a,decide_true,ah,ab,lN,df,cX,ao,cm,au (show i < 2 ^ 62 by omega),b,SX (show s.length < 2 ^ 20 by omega) (show [x].length < 2 ^ 20 by simp)]
  cases befB c r x.c x.r<;>rfl
 ·intro s _
  unfold uq
  simp
end Go.AM
namespace Go.AM
theorem ShOK.list_invP {α:Type} {enc:α->List IV} {Q:α->Prop} {L:List Sh} (hinv: ∀e,Typed L e-> ∃x,e=enc x/\Q x) {c:IV} (h:ShOK (.slc L) c): ∃l:List α,c= .lst (l.map enc)/\ ∀x∈l,Q x:=by
 cases h with
 | slc _ es hl h1 h2=>
   have: ∀e∈es,∃x,e=enc x/\Q x:= λe he=>by
    obtain ⟨i,hi⟩:=List.getElem?_of_mem he
    exact hinv e ⟨h1 e he,λj s c hs hc=>h2 i j e c s hi hc hs⟩
   have key: ∀(es:List (List IV)),(∀e∈es,∃x,e=enc x/\Q x)-> ∃l:List α,es=l.map enc/\ ∀x∈l,Q x:=by
    intro es
    induction es with
    | nil=>intro _;exact ⟨[],rfl,λx a=>by simp at a⟩
    | cons e es ih=>
      intro h
      obtain ⟨x,rfl,a⟩:=h e bx
      obtain ⟨l,rfl,hl⟩:=ih λe he=>h e (bm _ he)
      exact ⟨x::l,rfl,λy b=>by
       rcases bd.1 b with rfl | b
       ·exact a
       ·exact hl y b⟩
   obtain ⟨l,rfl,d⟩:=key es this
   exact ⟨l,rfl,d⟩
theorem L3 {c r c' a:Int}:befB c r c' a=true↔c < c'\/(c=c'/\r < a):=by
 unfold befB;simp only [bB,bf,decide_eq_true_eq]
theorem UU {a b:Mv}:FP a b=true↔a.c < b.c\/(a.c=b.c/\a.r < b.r):=L3
theorem LQ {a b c:Mv} (h:FP a b=true) (k:FP b c=true):FP a c=true:=by
 rw [UU] at*;omega
def BW (l:List Mv):Prop:=l.Pairwise λa b=>FP a b=true
theorem XE {l:List Mv}:xY FP l=true↔BW l:=by
 rw [EZ]
 constructor
 ·intro h
  exact yR (R:= λa b=>FP a b=true) (λa b c=>LQ) λi hi=>h i l[i] l[i+1] (a1 (by omega)) (a1 hi)
 ·intro h i x y d e
  obtain ⟨h1,rfl⟩:=ad.1 d
  obtain ⟨h2,rfl⟩:=ad.1 e
  exact List.pairwise_iff_getElem.1 h i (i+1) h1 h2 (by omega)
def SE (m:Mv):List Mv->List Mv
 | []=>[m]
 | x::l=>if FP m x=true then m::x::l else x::SE m l
theorem YO (m:Mv): ∀l:List Mv,l.take (atV l m)++[m]++l.drop (atV l m)=SE m l
 | []=>rfl
 | x::l=>by
   have ih:=YO m l
   unfold atV at ih ⊢
   simp only [bs,SE]
   by_cases h:FP m x=true
   ·have h':befB m.c m.r x.c x.r=true:=h
    simp [h,h']
   ·have h': ¬befB m.c m.r x.c x.r=true:=h
    simp only [h',if_false,h]
    rw [<-ih]
    cases l.findIdx? (λx=>befB m.c m.r x.c x.r)<;>simp
theorem abl {l:List Mv} {m:Mv}:HX l m=if l.any (tmB m.c m.r)=true then l else SE m l:=by
 unfold HX;rw [YO]
theorem Mq {m:Mv}: ∀{l:List Mv} {x:Mv},x∈SE m l↔x=m\/x∈l
 | [],x=>by simp [SE]
 | y::l,x=>by
   simp only [SE]
   split
   ·simp
   ·simp only [bd,Mq]
    constructor
    ·rintro (h | h | h)<;>simp [h]
    ·rintro (h | h | h)<;>simp [h]
theorem I5 {m:Mv}: ∀{l:List Mv},BW l->(∀x∈l,¬(x.c=m.c/\x.r=m.r))->BW (SE m l)
 | [],_,_=>List.pairwise_singleton _ _
 | x::l,h,hn=>by
   obtain ⟨h1,h2⟩:=bb.1 h
   have b:=hn x bx
   simp only [SE]
   split
   ·rename_i hb
    refine bb.2 ⟨λy a=> ?_,h⟩
    rcases bd.1 a with rfl | a
    ·exact hb
    ·exact LQ hb (h1 y a)
   ·rename_i hb
    refine bb.2 ⟨λy a=> ?_,I5 h2 λy a=>hn y (bm _ a)⟩
    rcases Mq.1 a with rfl | a
    ·rw [UU] at hb ⊢;omega
    ·exact h1 y a
theorem afq {l:List Mv} {c r:Int}:l.any (tmB c r)=true↔ ∃x∈l,x.c=c/\x.r=r:=by
 rw [bA]
 simp only [tmB,decide_eq_true_eq]
theorem UH {l:List Mv} {m:Mv} (h:BW l):BW (HX l m):=by
 rw [abl]
 split
 ·exact h
 ·rename_i hn
  exact I5 h λx a e=>hn (afq.2 ⟨x,a,e⟩)
theorem EM {l:List Mv} {m x:Mv} (h:x∈HX l m):x=m\/x∈l:=by
 rw [abl] at h
 split at h
 ·exact .inr h
 ·exact Mq.1 h
theorem lD {l:List Mv}:mayV l=true↔l.length<=2000/\(∀m∈l,oneV m=true)/\BW l:=by
 unfold mayV
 simp only [bf,decide_eq_true_eq,List.all_eq_true,XE]
end Go.AM
namespace Go.AM
end Go.AM
