/- Moves, plainly: the program's functions and the references'. -/
import Derived.Test.YtgoenohknokcmaaGreatFl
open Option renaming bind_some->ab,map_some->ao
open List renaming getElem?_eq_some_iff->ad,length_map->aB,getElem?_eq_getElem->a1,findIdx?_eq_some_iff_getElem->a6,mem_of_getElem?->a7,mem_cons_of_mem->a8,getD_eq_getElem?_getD->bb,mem_cons_self->bd,pairwise_cons->bf,mem_cons->bm,map_cons->bs,findIdx?_cons->bx,any_eq_true->bA
open Bool renaming false_eq_true->a2,and_eq_true->br,or_eq_true->bB,not_false->bM,false_or->bO,true_and->bR,not_true->b1,and_true->b2
open Int renaming ofNat_lt->a5,natCast_inj->bC
set_option linter.unusedVariables false
set_option linter.unusedSimpArgs false
namespace Go.AM
def abj (a b:Int):Int:=if a < b then -1 else if b < a then 1 else 0
theorem Ar (a b:Int):eD (.int .i64 a) (.int .i64 b)=some [.int .i64 (abj a b)]:=by
 unfold eD jT abj
 simp only [dv,ab,ne_eq,not_true_eq_false,decide_false,dQ,dm,ao,af,ag,al,aV,bj,wo]
 split
 ·rfl
 ·split<;>rfl
def ads (x:IV×Int):List IV:=[x.1]
def xZ:List Int->Int
 | []=>0
 | x::l=>if x≠0 then x else xZ l
theorem Nh {α:Type} {g:α->Int} {d:α}: ∀{l:List α},xZ (l.map g)=match l.findIdx? (λx=>decide (g x≠0)) with | some i=>g (l.getD i d) | none=>0
 | []=>rfl
 | x::l=>by
   simp only [bs,xZ,bx,decide_eq_true_eq]
   by_cases h:g x≠0
   ·simp [h]
   ·simp only [h,if_false]
    rw [Nh (d:=d)]
    cases l.findIdx? (λx=>decide (g x≠0))<;>simp
theorem Pt {C:IV->List Nat->List (List IV)->Option (List IV)} {l:List (IV×Int)} (hl:l.length < 100) (f: ∀x∈l,C x.1 [1] []=some [.int .i64 x.2]):mB C (.lst (l.map ads))=some [.int .i64 (xZ (l.map (·.2)))]:=by
 unfold mB
 simp only [aw,ab]
 rw [lI (vs0:=[IV.int .i64 0]) (λi=>[IV.int .i64 (i:Int)]) (λx=>decide (x.2≠0)) 1 (λi=>[IV.int .i64 (l.getD i (.nilp,0)).2]) 0 [] l rfl (by have:=aJ;omega),Nh (d:=(.nilp,0))]
 ·cases l.findIdx? (λx=>decide (x.2≠0))<;>simp
 ·intro i x a
  have hi:i < l.length:=(ad.1 a).1
  have hc:=f x (a7 a)
  have b:l.getD i (.nilp,0)=x:=by rw [bb,a];rfl
  have c:=ee (enc:=ads) (sz:=1) a rfl Nat.zero_lt_one
  have e:dV (.lst (l.map ads)) i 0=some x.1:=cg a
  unfold vY
  simp only [af,al,aB,a5,hi,decide_true,ah,ab,c,e,hc,dv,bj,au (show i < 2 ^ 62 by omega),b,decide_eq_true_eq]
  split<;>rfl
 ·unfold vY
  simp
theorem ld (c r c' a:Int):fy (.int .i64 c) (.int .i64 r) (.int .i64 c') (.int .i64 a)=some [.bool (befB c r c' a)]:=by
 unfold fy
 have h:=Pt (C:=ja) (l:=[((.clo (.func jY) [(.ptr [.int .i64 c,.int .i64 r] 0),(.ptr [.int .i64 c',.int .i64 a] 0)]),abj c c'),((.clo (.func jX) [(.ptr [.int .i64 c,.int .i64 r] 0),(.ptr [.int .i64 c',.int .i64 a] 0)]),abj r a)]) (by simp) (by
  intro x d
  simp only [bm,List.not_mem_nil,or_false] at d
  rcases d with rfl | rfl
  ·show j5 (.ptr [.int .i64 c,.int .i64 r] 0) (.ptr [.int .i64 c',.int .i64 a] 0)=_
   unfold j5
   simp [gx,iM,Ar]
  ·show jZ (.ptr [.int .i64 c,.int .i64 r] 0) (.ptr [.int .i64 c',.int .i64 a] 0)=_
   unfold jZ
   simp [gx,iM,Ar])
 simp only [bs,List.map_nil,ads] at h
 rw [h]
 simp only [ab,af,al,dQ,dm,ao]
 congr 3
 unfold befB abj xZ xZ xZ
 refine Bool.eq_of_iff ?_
 simp only [decide_eq_true_eq,bB,br]
 by_cases h1:c < c'
 ·simp [h1]
 ·by_cases h2:c' < c
  ·have: ¬c=c':=by omega
   simp [h1,h2,this]
  ·have:c=c':=by omega
   by_cases b:r < a
   ·simp [h1,h2,b,this]
   ·by_cases e:a < r<;>simp [h1,h2,b,e,this]
structure Key where
 c:Int
 r:Int
 ch:Int
 par:Int
 nm:List UInt8
 rk:Nat
 deriving DecidableEq
theorem RN {a b:Nat} (c:a < 2 ^ 64) (hb:b < 2 ^ 64):qK (.flt .f64 a) (.flt .f64 b)=some [.bool (decide (bitsN a=bitsN b))]:=by
 unfold qK
 simp only [sw c,sw hb,ab,af,dc,dQ,dm,ao,bC]
theorem O8 {a b:Nat} (c:a < 2 ^ 64) (hb:b < 2 ^ 64):o4 (.flt .f64 a) (.flt .f64 b)=some [.bool (decide (bitsN a=bitsN b))]:=by
 unfold o4
 simp only [Db c,Db hb,ab,af,dc,dQ,dm,ao,bC]
theorem ZE (a b:ByteArray):aa .eql (.str a) (.str b)=some (.bool (decide (a.toList=b.toList))):=by
 show some (IV.bool (a.toList==b.toList))=_
 congr 2
 by_cases h:a.toList=b.toList<;>simp [h]
theorem Mp {ch par a par':Int} {nm b:ByteArray} {rk c:Nat} (h:rk < 2 ^ 64) (h':c < 2 ^ 64):kC (.int .i64 ch) (.int .i64 par) (.str nm) (.flt .f64 rk) (.int .i64 a) (.int .i64 par') (.str b) (.flt .f64 c)=some [.bool (decide (ch=a/\par=par'/\nm.toList=b.toList/\bitsN rk=bitsN c))]:=by
 unfold kC
 simp only [dc,ZE,O8 h h',ab,af,KP,dQ,dm,ao]
 congr 3
 by_cases h1:ch=a<;>by_cases h2:par=par'<;>by_cases d:nm.toList=b.toList<;>simp [h1,h2,d]
theorem any_keys {α β:Type} [DecidableEq β] {g:α->β}: ∀{a b:List α} {k:Nat},a.length=b.length-> ∀{b0:List α},(∀i,b0[k+i]? =b[i]?)->anyI (λi x=>decide ((b0[i]?).map g≠some (g x))) a k= !decide (a.map g=b.map g)
 | [],[],_,_,_,_=>by simp [anyI]
 | x::a,y::b,k,hl,b0,hb=>by
   have h0:=hb 0
   simp only [Nat.add_zero,List.getElem?_cons_zero] at h0
   simp only [anyI,bs,List.cons.injEq,h0,ao,ne_eq,Option.some.injEq]
   rw [any_keys (b:=b) (by simpa using hl) (λi=>by have:=hb (i+1);rw [show k+1+i=k+(i+1) by omega,this];simp)]
   by_cases h1:g x=g y
   ·have:g y=g x:=h1.symm
    by_cases h2:a.map g=b.map g<;>simp [h1,h2]
   ·have: ¬g y=g x:= λe=>h1 e.symm
    simp [h1,this]
theorem ep {f:List IV->Option SR} {vs:List IV} {k:Nat} {o:List IV} (n:Nat) (h:f vs=some (.done k o)):iter (n+1) f vs=some (k,o):=by
 simp only [iter,h,ab]
theorem Jl {α:Type} {f:List IV->Option SR} (enc:Nat->List IV) (bad:Nat->α->Bool) (d:Nat) (b:List IV) (g:Nat) (a:List IV) (l:List α) (k:Nat) (hk:k<=l.length) (hl:l.length < rounds)
  (hs: ∀i x,k<=i->l[i]? =some x->f (enc i)=some (if bad i x=true then .done d b else .next (enc (i+1)))) (he:f (enc l.length)=some (.done g a)):
  iter rounds f (enc k)=some (if anyI bad (l.drop k) k=true then (d,b) else (g,a)):=by
 have key: ∀(n k:Nat),k<=l.length->l.length - k < n->(∀i x,k<=i->l[i]? =some x->f (enc i)=some (if bad i x=true then .done d b else .next (enc (i+1))))->iter n f (enc k)=some (if anyI bad (l.drop k) k=true then (d,b) else (g,a)):=by
  intro n
  induction n with
  | zero=>intro k hk hn;omega
  | succ n ih=>
    intro k hk hn hs
    by_cases h:k=l.length
    ·subst h
     simp only [iter,he,ab,List.drop_length,anyI,a2,if_false]
    ·have c:k < l.length:=by omega
     have e:l[k]? =some l[k]:=a1 c
     rw [List.drop_eq_getElem_cons c]
     simp only [iter,hs k l[k] (Nat.le_refl _) e,ab,anyI]
     by_cases hb:bad k l[k]=true
     ·simp [hb]
     ·simp only [hb,if_false,a2,bO]
      exact ih (k+1) (by omega) (by omega) λi x hi e=>hs i x (by omega) e
 exact key rounds k hk (by omega) hs
theorem Mg {C:IV->List Nat->List (List IV)->Option (List IV)} {b:IV} {p:Mv->Bool} {l:List Mv} (hl:l.length < 2 ^ 16) (c: ∀x∈l,C b [1] [eMv x]=some [.bool (p x)]):
  cw C (aI l) b=some [.int .i64 (Qx p l)]:=by
 unfold cw
 simp only [aw,ab]
 rw [lI (vs0:=[IV.int .i64 0]) (λi=>[IV.int .i64 (i:Int)]) p 1 (λi=>[IV.int .i64 (i:Int)]) 0 [] l rfl (by have:=aJ;omega)]
 ·unfold Qx
  cases l.findIdx? p<;>simp
 ·intro i x a
  have hi:i < l.length:=(ad.1 a).1
  have hc:=c x (a7 a)
  unfold gZ
  unfold eMv at hc
  simp only [af,ai,ay,aH,bW,bV,al,aB,a5,zH a,decide_true,ah,ab,hc,db,au (show i < 2 ^ 62 by omega),if_true]
  cases p x<;>rfl
 ·unfold gZ
  simp
theorem abY {α:Type} {R:α->α->Bool} {l:List α}:anyI (λi x=> !R (l.getD (i - 1) x) x) (l.drop 1) 1= !xQ R l:=by
 rw [<-aaV]
 cases l with
 | nil=>rfl
 | cons x l=>
   simp only [List.drop_succ_cons,List.drop_zero,anyI,Nat.lt_irrefl,decide_false,Bool.false_and,bO]
   have: ∀(m:List α) (k:Nat),0 < k->anyI (λi y=> !R ((x::l).getD (i - 1) y) y) m k=anyI (λi y=>decide (0 < i)&& !R ((x::l).getD (i - 1) y) y) m k:=by
    intro m
    induction m with
    | nil=>intro k _;rfl
    | cons y m ih=>intro k hk;simp only [anyI,hk,decide_true,bR];rw [ih (k+1) (by omega)]
   exact this l 1 (by omega)
theorem xI {l:List Mv} (hl:l.length < 2 ^ 16):mh (aI l)=some [.bool (mayV l)]:=by
 unfold mh mayV
 have a:iter rounds (jK (aI l)) [.int .i64 1]=some (if (!xQ F0 l)=true then (1,[.bool false]) else (0,[])):=by
  by_cases h0:l=[]
  ·subst h0
   have:jK (aI []) [.int .i64 1]=some (.done 0 []):=by unfold jK;simp
   exact ep 999999 this
  ·have b:1<=l.length:=by cases l with | nil=>exact absurd rfl h0 | cons x l=>simp
   have:=Jl (f:=jK (aI l)) (λi=>[IV.int .i64 (i:Int)]) (λi x=> !F0 (l.getD (i - 1) x) x) 1 [.bool false] 0 [] l 1 b (by have:=aJ;omega) (λi x e d=>by
    have hi:i < l.length:=(ad.1 d).1
    have hp:l[i - 1]? =some (l.getD (i - 1) x):=by
     rw [bb,a1 (by omega)];rfl
    unfold jK
    simp only [aw,af,ai,al,aB,a5,zH d,decide_true,ah,ab,qi (show i < 2 ^ 62 by omega) (show 0 < i by omega),zH hp,ld,aZ,db,au (show i < 2 ^ 62 by omega),F0,if_true]
    by_cases hb:befB (l.getD (i - 1) x).c (l.getD (i - 1) x).r x.c x.r=true<;>simp only [hb,b1,bM,if_true,if_false,a2]) (by unfold jK;simp)
   rw [abY] at this
   exact this
 rw [a]
 by_cases had:xQ F0 l=true
 ·simp only [had,b1,a2,if_false,ab,aK,aw,e9,aB,bj]
  by_cases h:l.length<=2000
  ·have hle:(l.length:Int)<=2000:=by omega
   unfold cB
   rw [Mg hl (p:= λm=> !oneV m)]
   ·simp only [hle,if_true,ab,af,dk,Q3,dQ,dm,ao,aZ,h,decide_true,bR,b2]
    have:(l.any λm=> !oneV m)= !l.all oneV:=by rw [List.any_eq_not_all_not];simp only [Bool.not_not]
    rw [this]
    cases l.all oneV<;>rfl
   ·intro x _
    show nH (.int .i64 x.c) (.int .i64 x.r) (.int .i64 x.par) (.int .i64 x.ch) (.str x.nm) (.flt .f64 x.rk)=_
    unfold nH
    simp [xo]
  ·have hle: ¬(l.length:Int)<=2000:=by omega
   simp [hle,h]
 ·simp [had]
def tmB (c r:Int) (m:Mv):Bool:=decide (m.c=c/\m.r=r)
def atV (l:List Mv) (m:Mv):Nat:=(l.findIdx? λx=>befB m.c m.r x.c x.r).getD l.length
def qL (l:List Mv) (m:Mv):List Mv:=if l.any (tmB m.c m.r)=true then l else l.take (atV l m)++[m]++l.drop (atV l m)
def aha (l:List Mv) (m:Mv):Nat:=match l.findIdx? (tmB m.c m.r) with | some i=>i | none=>atV l m
def zl (l:List Mv) (m:Mv):Bool:= !l.any (tmB m.c m.r)
theorem abw (l:List Mv) (m:Mv):atV l m<=l.length:=by
 unfold atV
 cases h:l.findIdx? λx=>befB m.c m.r x.c x.r with
 | none=>exact Nat.le_refl _
 | some i=>exact Nat.le_of_lt (a6.1 h).1
theorem vo (l:List Mv) (m:Mv):(qL l m).length<=l.length+1:=by
 unfold qL
 split
 ·omega
 ·have:=abw l m;simp;omega
theorem Tr {l k:List Mv} (hl:l.length < 2 ^ 20) (hk:k.length < 2 ^ 20):bX 6 56 (aI l) (aI k)=some (aI (l++k)):=by
 simp only [bX]
 rw [if_pos]
 ·simp
 ·refine ⟨by simp;omega,by simp [eMv]⟩
theorem Y0 {l:List Mv} (hl:l.length < 2 ^ 16) {i:Nat} (hi:i<=l.length) (m:Mv):eh (aI l) (.int .i64 (i:Int)) (.lst [[.int .i64 m.c,.int .i64 m.r,.int .i64 m.par,.int .i64 m.ch,.str m.nm,.flt .f64 m.rk]])=some [aI (l.take i++[m]++l.drop i)]:=by
 unfold eh
 simp only [sK]
 rw [if_pos]
 ·simp [eMv]
 ·refine ⟨by omega,by simp;omega,by simp;omega,rfl⟩
theorem Ug {l:List Mv} (hl:l.length < 2 ^ 16):dA (aI l)=some [aI l]:=by
 unfold dA
 simp only [tC]
 rw [if_pos]
 refine ⟨by simp;omega,by simp [eMv,IV.scalar]⟩
theorem YS {C:IV->List Nat->List (List IV)->Option (List IV)} {b:IV} {p:Mv->Bool} {l:List Mv} {c r:Int} (hl:l.length < 2 ^ 16) (d: ∀x∈l,C b [1] [[.int .i64 c,.int .i64 r],eMv x]=some [.bool (p x)]):
  jE C (aI l) (.int .i64 c) (.int .i64 r) b=some [.int .i64 (((l.findIdx? p).getD l.length:Nat):Int)]:=by
 unfold jE
 simp only [aw,ab]
 rw [lI (vs0:=[IV.int .i64 0]) (λi=>[IV.int .i64 (i:Int)]) p 1 (λi=>[IV.int .i64 (i:Int)]) 0 [] l rfl (by have:=aJ;omega)]
 ·cases l.findIdx? p<;>simp
 ·intro i x a
  have hi:i < l.length:=(ad.1 a).1
  have hc:=d x (a7 a)
  unfold vT
  unfold eMv at hc
  simp only [af,ai,ay,aH,bW,bV,al,aB,a5,zH a,decide_true,ah,ab,hc,db,au (show i < 2 ^ 62 by omega),if_true]
  cases p x<;>rfl
 ·unfold vT
  simp
theorem yO {l:List Mv} (hl:l.length < 2 ^ 16) (m:Mv):jj (aI l) (.int .i64 m.c) (.int .i64 m.r) (.int .i64 m.par) (.int .i64 m.ch) (.str m.nm) (.flt .f64 m.rk)=some [aI (qL l m),.int .i64 (aha l m:Int),.bool (zl l m)]:=by
 unfold jj
 rw [YS hl (p:=tmB m.c m.r)]
 ·simp only [ab,af,aw,al,aB,a5,bj]
  unfold qL aha zl
  cases h:l.findIdx? (tmB m.c m.r) with
  | some i=>
    obtain ⟨hi,hp,_⟩:=a6.1 h
    have a:l.any (tmB m.c m.r)=true:=bA.2 ⟨l[i],List.getElem_mem hi,hp⟩
    simp [hi,a]
  | none=>
    have b:=List.findIdx?_eq_none_iff.1 h
    have a:l.any (tmB m.c m.r)=false:=by
     rw [List.any_eq_false];intro x d;rw [b x d];simp
    simp only [Option.getD_none,Nat.lt_irrefl,if_false,a,a2]
    rw [YS hl (p:= λx=>befB m.c m.r x.c x.r)]
    ·have:=Y0 hl (abw l m) m
     unfold atV at this ⊢
     simp only [ab,Ug hl,af,this,bM]
    ·intro x _
     show cS (.int .i64 m.c) (.int .i64 m.r) (.int .i64 x.c) (.int .i64 x.r) (.int .i64 x.par) (.int .i64 x.ch) (.str x.nm) (.flt .f64 x.rk)=_
     unfold cS
     simp [ld]
 ·intro x _
  show kc (.int .i64 m.c) (.int .i64 m.r) (.int .i64 x.c) (.int .i64 x.r) (.int .i64 x.par) (.int .i64 x.ch) (.str x.nm) (.flt .f64 x.rk)=_
  unfold kc tmB
  simp only [TY,MD,WZ,if_true,ab,ao,b2,dQ,dm]
  congr 3
  by_cases h1:x.c=m.c<;>by_cases h2:x.r=m.r<;>simp [h1,h2]
def uniV (a b:List Mv):List Mv:=b.foldl qL a
theorem Nf {a b:List Mv} (e:a.length < 2 ^ 15) (hb:b.length < 2 ^ 15):kz (aI a) (aI b)=some [aI (uniV a b)]:=by
 unfold kz uniV
 simp only [aw,ab]
 rw [kE (vs0:=[aI a,.int .i64 0]) (λi (v:List Mv)=>[aI v,.int .i64 (i:Int)]) qL 0 (λv=>[aI v]) (λi v=>v.length<=a.length+i) b a rfl (by have:=aJ;omega) (by simp)]
 ·simp
 ·intro i s x c d
  have hi:i < b.length:=(ad.1 c).1
  have:=vo s x
  refine ⟨by omega,?_⟩
  unfold tK
  simp only [af,ai,ay,aH,bW,bV,al,aB,a5,zH c,decide_true,ah,ab,yO (show s.length < 2 ^ 16 by omega),au (show i < 2 ^ 62 by omega)]
 ·intro s _
  unfold tK
  simp
def Cc (l:List Mv) (c r:Int):List Mv:=l.filter λm=>befB c r m.c m.r
theorem fold_filter {α:Type} (p:α->Bool): ∀(l k:List α),l.foldl (λs x=>if p x=true then s++[x] else s) k=k++l.filter p
 | [],k=>by simp
 | x::l,k=>by
   simp only [List.foldl_cons,List.filter_cons]
   rw [fold_filter]
   split<;>simp
theorem Bu {l:List Mv} (hl:l.length < 2 ^ 16) (c r:Int):kF (aI l) (.int .i64 c) (.int .i64 r)=some [aI (Cc l c r)]:=by
 unfold kF
 simp only [aw,ab]
 rw [kE (vs0:=[.lst [],.int .i64 0]) (λi (v:List Mv)=>[aI v,.int .i64 (i:Int)]) (λs m=>if befB c r m.c m.r=true then s++[m] else s) 0 (λv=>[aI v]) (λi v=>v.length<=i) l [] rfl (by have:=aJ;omega) (by simp)]
 ·rw [fold_filter (λm:Mv=>befB c r m.c m.r)]
  simp [Cc]
 ·intro i s x a d
  have hi:i < l.length:=(ad.1 a).1
  refine ⟨by split;(simp;omega);omega,?_⟩
  have b:IV.lst [[.int .i64 x.c,.int .i64 x.r,.int .i64 x.par,.int .i64 x.ch,.str x.nm,.flt .f64 x.rk]]=aI [x]:=rfl
  unfold tA cS
  simp only [af,ai,ay,aH,bW,bV,al,aB,a5,zH a,decide_true,ah,ab,ld,dQ,dm,ao,db,au (show i < 2 ^ 62 by omega),b,Tr (show s.length < 2 ^ 20 by omega) (show [x].length < 2 ^ 20 by simp)]
  cases befB c r x.c x.r<;>rfl
 ·intro s _
  unfold tA
  simp
end Go.AM
namespace Go.AM
theorem ShOK.list_invP {α:Type} {enc:α->List IV} {Q:α->Prop} {L:List Sh} (hinv: ∀e,Typed L e-> ∃x,e=enc x/\Q x) {c:IV} (h:ShOK (.slc L) c): ∃l:List α,c= .lst (l.map enc)/\ ∀x∈l,Q x:=by
 cases h with
 | slc _ es hl h1 h2=>
   have: ∀e∈es,∃x,e=enc x/\Q x:= λe he=>by
    obtain ⟨i,hi⟩:=List.getElem?_of_mem he
    exact hinv e ⟨h1 e he,λj s c hs hc=>h2 i j e c s hi hc hs⟩
   have key: ∀(es:List (List IV)),(∀e∈es,∃x,e=enc x/\Q x)-> ∃l:List α,es=l.map enc/\ ∀x∈l,Q x:=by
    intro es
    induction es with
    | nil=>intro _;exact ⟨[],rfl,λx a=>by simp at a⟩
    | cons e es ih=>
      intro h
      obtain ⟨x,rfl,a⟩:=h e bd
      obtain ⟨l,rfl,hl⟩:=ih λe he=>h e (a8 _ he)
      exact ⟨x::l,rfl,λy b=>by
       rcases bm.1 b with rfl | b
       ·exact a
       ·exact hl y b⟩
   obtain ⟨l,rfl,d⟩:=key es this
   exact ⟨l,rfl,d⟩
theorem L0 {c r c' a:Int}:befB c r c' a=true↔c < c'\/(c=c'/\r < a):=by
 unfold befB;simp only [bB,br,decide_eq_true_eq]
theorem FN {a b:Mv}:F0 a b=true↔a.c < b.c\/(a.c=b.c/\a.r < b.r):=L0
theorem Mn {a b c:Mv} (h:F0 a b=true) (k:F0 b c=true):F0 a c=true:=by
 rw [FN] at*;omega
def oT (l:List Mv):Prop:=l.Pairwise λa b=>F0 a b=true
theorem W6 {l:List Mv}:xQ F0 l=true↔oT l:=by
 rw [FD]
 constructor
 ·intro h
  exact yY (R:= λa b=>F0 a b=true) (λa b c=>Mn) λi hi=>h i l[i] l[i+1] (a1 (by omega)) (a1 hi)
 ·intro h i x y d e
  obtain ⟨h1,rfl⟩:=ad.1 d
  obtain ⟨h2,rfl⟩:=ad.1 e
  exact List.pairwise_iff_getElem.1 h i (i+1) h1 h2 (by omega)
def Su (m:Mv):List Mv->List Mv
 | []=>[m]
 | x::l=>if F0 m x=true then m::x::l else x::Su m l
theorem X5 (m:Mv): ∀l:List Mv,l.take (atV l m)++[m]++l.drop (atV l m)=Su m l
 | []=>rfl
 | x::l=>by
   have ih:=X5 m l
   unfold atV at ih ⊢
   simp only [bx,Su]
   by_cases h:F0 m x=true
   ·have h':befB m.c m.r x.c x.r=true:=h
    simp [h,h']
   ·have h': ¬befB m.c m.r x.c x.r=true:=h
    simp only [h',if_false,h]
    rw [<-ih]
    cases l.findIdx? (λx=>befB m.c m.r x.c x.r)<;>simp
theorem MB {l:List Mv} {m:Mv}:qL l m=if l.any (tmB m.c m.r)=true then l else Su m l:=by
 unfold qL;rw [X5]
theorem wH {m:Mv}: ∀{l:List Mv} {x:Mv},x∈Su m l↔x=m\/x∈l
 | [],x=>by simp [Su]
 | y::l,x=>by
   simp only [Su]
   split
   ·simp
   ·simp only [bm,wH]
    constructor
    ·rintro (h | h | h)<;>simp [h]
    ·rintro (h | h | h)<;>simp [h]
theorem Im {m:Mv}: ∀{l:List Mv},oT l->(∀x∈l,¬(x.c=m.c/\x.r=m.r))->oT (Su m l)
 | [],_,_=>List.pairwise_singleton _ _
 | x::l,h,hn=>by
   obtain ⟨h1,h2⟩:=bf.1 h
   have b:=hn x bd
   simp only [Su]
   split
   ·rename_i hb
    refine bf.2 ⟨λy a=> ?_,h⟩
    rcases bm.1 a with rfl | a
    ·exact hb
    ·exact Mn hb (h1 y a)
   ·rename_i hb
    refine bf.2 ⟨λy a=> ?_,Im h2 λy a=>hn y (a8 _ a)⟩
    rcases wH.1 a with rfl | a
    ·rw [FN] at hb ⊢;omega
    ·exact h1 y a
theorem abM {l:List Mv} {c r:Int}:l.any (tmB c r)=true↔ ∃x∈l,x.c=c/\x.r=r:=by
 rw [bA]
 simp only [tmB,decide_eq_true_eq]
theorem Ie {l:List Mv} {m:Mv} (h:oT l):oT (qL l m):=by
 rw [MB]
 split
 ·exact h
 ·rename_i hn
  exact Im h λx a e=>hn (abM.2 ⟨x,a,e⟩)
theorem sU {l:List Mv} {m x:Mv} (h:x∈qL l m):x=m\/x∈l:=by
 rw [MB] at h
 split at h
 ·exact .inr h
 ·exact wH.1 h
theorem Ii: ∀{b a:List Mv},oT a->oT (uniV a b)
 | [],a,h=>h
 | x::b,a,h=>Ii (b:=b) (Ie h)
theorem TP: ∀{b a:List Mv} {x:Mv},x∈uniV a b->x∈a\/x∈b
 | [],a,x,h=> .inl h
 | y::b,a,x,h=>by
   rcases TP (b:=b) h with h | h
   ·rcases sU h with rfl | h
    ·exact .inr bd
    ·exact .inl h
   ·exact .inr (a8 _ h)
theorem fX {l:List Mv}:mayV l=true↔l.length<=2000/\(∀m∈l,oneV m=true)/\oT l:=by
 unfold mayV
 simp only [br,decide_eq_true_eq,List.all_eq_true,W6]
end Go.AM
namespace Go.AM
end Go.AM
