/- Moves, plainly: the program's functions and the references'. -/
import Derived.Test.YtgoenohknokcmaaGreatFl
open Option renaming bind_some->ab,map_some->a1
open List renaming getElem?_eq_some_iff->ad,length_map->al,getElem?_eq_getElem->ao,findIdx?_eq_some_iff_getElem->a5,mem_of_getElem?->a6,mem_cons_of_mem->a7,getD_eq_getElem?_getD->a8,mem_cons_self->bb,pairwise_cons->bd,mem_cons->bf,findIdx?_cons->br,any_eq_true->bs,map_cons->bB
open Bool renaming false_eq_true->aB,and_eq_true->bm,or_eq_true->bx,not_false->bA,false_or->bC,true_and->bM,not_true->bO,and_true->bR
open Int renaming ofNat_lt->a2
set_option linter.unusedVariables false
set_option linter.unusedSimpArgs false
namespace Go.AM
def abd (a b:Int):Int:=if a < b then -1 else if b < a then 1 else 0
theorem BO (a b:Int):eD (.int .i64 a) (.int .i64 b)=some [.int .i64 (abd a b)]:=by
 unfold eD kH abd
 simp only [eb,ab,ne_eq,not_true_eq_false,decide_false,fR,eh,a1,af,ag,an,aR,bw,xl]
 split
 ·rfl
 ·split<;>rfl
def adq (x:IV×Int):List IV:=[x.1]
def ym:List Int->Int
 | []=>0
 | x::l=>if x≠0 then x else ym l
theorem Mo {α:Type} {g:α->Int} {d:α}: ∀{l:List α},ym (l.map g)=match l.findIdx? (λx=>decide (g x≠0)) with | some i=>g (l.getD i d) | none=>0
 | []=>rfl
 | x::l=>by
   simp only [bB,ym,br,decide_eq_true_eq]
   by_cases h:g x≠0
   ·simp [h]
   ·simp only [h,if_false]
    rw [Mo (d:=d)]
    cases l.findIdx? (λx=>decide (g x≠0))<;>simp
theorem OQ {C:IV->List Nat->List (List IV)->Option (List IV)} {l:List (IV×Int)} (hl:l.length < 100) (e: ∀x∈l,C x.1 [1] []=some [.int .i64 x.2]):mK C (.lst (l.map adq))=some [.int .i64 (ym (l.map (·.2)))]:=by
 unfold mK
 simp only [ax,ab]
 rw [lM (vs0:=[IV.int .i64 0]) (λi=>[IV.int .i64 (i:Int)]) (λx=>decide (x.2≠0)) 1 (λi=>[IV.int .i64 (l.getD i (.nilp,0)).2]) 0 [] l rfl (by have:=bg;omega),Mo (d:=(.nilp,0))]
 ·cases l.findIdx? (λx=>decide (x.2≠0))<;>simp
 ·intro i x hx
  have hi:i < l.length:=(ad.1 hx).1
  have hc:=e x (a6 hx)
  have a:l.getD i (.nilp,0)=x:=by rw [a8,hx];rfl
  have b:=dY (enc:=adq) (sz:=1) hx rfl Nat.zero_lt_one
  have c:dh (.lst (l.map adq)) i 0=some x.1:=cf hx
  unfold wD
  simp only [af,an,al,a2,hi,decide_true,ah,ab,b,c,hc,eb,bw,au (show i < 2 ^ 62 by omega),a,decide_eq_true_eq]
  split<;>rfl
 ·unfold wD
  simp
theorem jw (c r c' r':Int):di (.int .i64 c) (.int .i64 r) (.int .i64 c') (.int .i64 r')=some [.bool (befB c r c' r')]:=by
 unfold di
 have h:=OQ (C:=jC) (l:=[((.clo (.func kA) [(.ptr [.int .i64 c,.int .i64 r] 0),(.ptr [.int .i64 c',.int .i64 r'] 0)]),abd c c'),((.clo (.func kB) [(.ptr [.int .i64 c,.int .i64 r] 0),(.ptr [.int .i64 c',.int .i64 r'] 0)]),abd r r')]) (by simp) (by
  intro x hx
  simp only [bf,List.not_mem_nil,or_false] at hx
  rcases hx with rfl | rfl
  ·show kj (.ptr [.int .i64 c,.int .i64 r] 0) (.ptr [.int .i64 c',.int .i64 r'] 0)=_
   unfold kj
   simp [gA,iW,BO]
  ·show kI (.ptr [.int .i64 c,.int .i64 r] 0) (.ptr [.int .i64 c',.int .i64 r'] 0)=_
   unfold kI
   simp [gA,iW,BO])
 simp only [bB,List.map_nil,adq] at h
 rw [h]
 simp only [ab,af,an,fR,eh,a1]
 congr 3
 unfold befB abd ym ym ym
 refine Bool.eq_of_iff ?_
 simp only [decide_eq_true_eq,bx,bm]
 by_cases h1:c < c'
 ·simp [h1]
 ·by_cases h2:c' < c
  ·have: ¬c=c':=by omega
   simp [h1,h2,this]
  ·have:c=c':=by omega
   by_cases a:r < r'
   ·simp [h1,h2,a,this]
   ·by_cases b:r' < r<;>simp [h1,h2,a,b,this]
structure Key where
 c:Int
 r:Int
 ch:Int
 par:Int
 nm:List UInt8
 rk:Nat
 deriving DecidableEq
theorem Td {a b:Nat} (c:a < 2 ^ 64) (hb:b < 2 ^ 64):rB (.flt .f64 a) (.flt .f64 b)=some [.bool (decide (bitsN a=bitsN b))]:=by
 unfold rB
 simp only [pM c,pM hb,ab,af,db,fR,eh,a1,Int.natCast_inj]
theorem gL {f:List IV->Option SR} {vs:List IV} {k:Nat} {o:List IV} (n:Nat) (h:f vs=some (.done k o)):iter (n+1) f vs=some (k,o):=by
 simp only [iter,h,ab]
theorem Js {α:Type} {f:List IV->Option SR} (enc:Nat->List IV) (bad:Nat->α->Bool) (d:Nat) (b:List IV) (e:Nat) (a:List IV) (l:List α) (k:Nat) (hk:k<=l.length) (hl:l.length < rounds)
  (hs: ∀i x,k<=i->l[i]? =some x->f (enc i)=some (if bad i x=true then .done d b else .next (enc (i+1)))) (he:f (enc l.length)=some (.done e a)):
  iter rounds f (enc k)=some (if anyI bad (l.drop k) k=true then (d,b) else (e,a)):=by
 have key: ∀(n k:Nat),k<=l.length->l.length - k < n->(∀i x,k<=i->l[i]? =some x->f (enc i)=some (if bad i x=true then .done d b else .next (enc (i+1))))->iter n f (enc k)=some (if anyI bad (l.drop k) k=true then (d,b) else (e,a)):=by
  intro n
  induction n with
  | zero=>intro k hk hn;omega
  | succ n ih=>
    intro k hk hn hs
    by_cases h:k=l.length
    ·subst h
     simp only [iter,he,ab,List.drop_length,anyI,aB,if_false]
    ·have c:k < l.length:=by omega
     have hx:l[k]? =some l[k]:=ao c
     rw [List.drop_eq_getElem_cons c]
     simp only [iter,hs k l[k] (Nat.le_refl _) hx,ab,anyI]
     by_cases hb:bad k l[k]=true
     ·simp [hb]
     ·simp only [hb,if_false,aB,bC]
      exact ih (k+1) (by omega) (by omega) λi x hi hx=>hs i x (by omega) hx
 exact key rounds k hk (by omega) hs
theorem Mi {C:IV->List Nat->List (List IV)->Option (List IV)} {a:IV} {p:Mv->Bool} {l:List Mv} (hl:l.length < 2 ^ 16) (b: ∀x∈l,C a [1] [eMv x]=some [.bool (p x)]):
  cA C (bh l) a=some [.int .i64 (Qe p l)]:=by
 unfold cA
 simp only [ax,ab]
 rw [lM (vs0:=[IV.int .i64 0]) (λi=>[IV.int .i64 (i:Int)]) p 1 (λi=>[IV.int .i64 (i:Int)]) 0 [] l rfl (by have:=bg;omega)]
 ·unfold Qe
  cases l.findIdx? p<;>simp
 ·intro i x hx
  have hi:i < l.length:=(ad.1 hx).1
  have hc:=b x (a6 hx)
  unfold il
  unfold eMv at hc
  simp only [af,ai,aA,aD,cp,cn,an,al,a2,wb hx,decide_true,ah,ab,hc,dr,au (show i < 2 ^ 62 by omega),if_true]
  cases p x<;>rfl
 ·unfold il
  simp
theorem aau {α:Type} {R:α->α->Bool} {l:List α}:anyI (λi x=> !R (l.getD (i - 1) x) x) (l.drop 1) 1= !yL R l:=by
 rw [<-abM]
 cases l with
 | nil=>rfl
 | cons x l=>
   simp only [List.drop_succ_cons,List.drop_zero,anyI,Nat.lt_irrefl,decide_false,Bool.false_and,bC]
   have: ∀(m:List α) (k:Nat),0 < k->anyI (λi y=> !R ((x::l).getD (i - 1) y) y) m k=anyI (λi y=>decide (0 < i)&& !R ((x::l).getD (i - 1) y) y) m k:=by
    intro m
    induction m with
    | nil=>intro k _;rfl
    | cons y m ih=>intro k hk;simp only [anyI,hk,decide_true,bM];rw [ih (k+1) (by omega)]
   exact this l 1 (by omega)
theorem ta {l:List Mv} (hl:l.length < 2 ^ 16):jJ (bh l)=some [.bool (mayV l)]:=by
 unfold jJ mayV
 have a:iter rounds (jS (bh l)) [.int .i64 1]=some (if (!yL EU l)=true then (1,[.bool false]) else (0,[])):=by
  by_cases h0:l=[]
  ·subst h0
   have:jS (bh []) [.int .i64 1]=some (.done 0 []):=by unfold jS;simp
   exact gL 999999 this
  ·have b:1<=l.length:=by cases l with | nil=>exact absurd rfl h0 | cons x l=>simp
   have:=Js (f:=jS (bh l)) (λi=>[IV.int .i64 (i:Int)]) (λi x=> !EU (l.getD (i - 1) x) x) 1 [.bool false] 0 [] l 1 b (by have:=bg;omega) (λi x d hx=>by
    have hi:i < l.length:=(ad.1 hx).1
    have hp:l[i - 1]? =some (l.getD (i - 1) x):=by
     rw [a8,ao (by omega)];rfl
    unfold jS
    simp only [ax,af,ai,an,al,a2,wb hx,decide_true,ah,ab,tq (show i < 2 ^ 62 by omega) (show 0 < i by omega),wb hp,jw,aY,dr,au (show i < 2 ^ 62 by omega),EU,if_true]
    by_cases hb:befB (l.getD (i - 1) x).c (l.getD (i - 1) x).r x.c x.r=true<;>simp only [hb,bO,bA,if_true,if_false,aB]) (by unfold jS;simp)
   rw [aau] at this
   exact this
 rw [a]
 by_cases had:yL EU l=true
 ·simp only [had,bO,aB,if_false,ab,aW,ax,gk,al,bw]
  by_cases h:l.length<=2000
  ·have hle:(l.length:Int)<=2000:=by omega
   unfold cE
   rw [Mi hl (p:= λm=> !oneV m)]
   ·simp only [hle,if_true,ab,af,dm,Ry,fR,eh,a1,aY,h,decide_true,bM,bR]
    have:(l.any λm=> !oneV m)= !l.all oneV:=by rw [List.any_eq_not_all_not];simp only [Bool.not_not]
    rw [this]
    cases l.all oneV<;>rfl
   ·intro x _
    show nx (.int .i64 x.c) (.int .i64 x.r) (.int .i64 x.par) (.int .i64 x.ch) (.str x.nm) (.flt .f64 x.rk)=_
    unfold nx
    simp [s9]
  ·have hle: ¬(l.length:Int)<=2000:=by omega
   simp [hle,h]
 ·simp [had]
def tmB (c r:Int) (m:Mv):Bool:=decide (m.c=c/\m.r=r)
def atV (l:List Mv) (m:Mv):Nat:=(l.findIdx? λx=>befB m.c m.r x.c x.r).getD l.length
def zx (l:List Mv) (m:Mv):List Mv:=if l.any (tmB m.c m.r)=true then l else l.take (atV l m)++[m]++l.drop (atV l m)
def agm (l:List Mv) (m:Mv):Nat:=match l.findIdx? (tmB m.c m.r) with | some i=>i | none=>atV l m
def LA (l:List Mv) (m:Mv):Bool:= !l.any (tmB m.c m.r)
theorem XZ (l:List Mv) (m:Mv):atV l m<=l.length:=by
 unfold atV
 cases h:l.findIdx? λx=>befB m.c m.r x.c x.r with
 | none=>exact Nat.le_refl _
 | some i=>exact Nat.le_of_lt (a5.1 h).1
theorem wj (l:List Mv) (m:Mv):(zx l m).length<=l.length+1:=by
 unfold zx
 split
 ·omega
 ·have:=XZ l m;simp;omega
theorem KD {l k:List Mv} (hl:l.length < 2 ^ 20) (hk:k.length < 2 ^ 20):bS 6 56 (bh l) (bh k)=some (bh (l++k)):=by
 simp only [bS]
 rw [if_pos]
 ·simp
 ·refine ⟨by simp;omega,by simp [eMv]⟩
theorem ZL {l:List Mv} (hl:l.length < 2 ^ 16) {i:Nat} (hi:i<=l.length) (m:Mv):ej (bh l) (.int .i64 (i:Int)) (.lst [[.int .i64 m.c,.int .i64 m.r,.int .i64 m.par,.int .i64 m.ch,.str m.nm,.flt .f64 m.rk]])=some [bh (l.take i++[m]++l.drop i)]:=by
 unfold ej
 simp only [tm]
 rw [if_pos]
 ·simp [eMv]
 ·refine ⟨by omega,by simp;omega,by simp;omega,rfl⟩
theorem U2 {l:List Mv} (hl:l.length < 2 ^ 16):dz (bh l)=some [bh l]:=by
 unfold dz
 simp only [uY]
 rw [if_pos]
 refine ⟨by simp;omega,by simp [eMv,IV.scalar]⟩
theorem Yf {C:IV->List Nat->List (List IV)->Option (List IV)} {a:IV} {p:Mv->Bool} {l:List Mv} {c r:Int} (hl:l.length < 2 ^ 16) (b: ∀x∈l,C a [1] [[.int .i64 c,.int .i64 r],eMv x]=some [.bool (p x)]):
  jR C (bh l) (.int .i64 c) (.int .i64 r) a=some [.int .i64 (((l.findIdx? p).getD l.length:Nat):Int)]:=by
 unfold jR
 simp only [ax,ab]
 rw [lM (vs0:=[IV.int .i64 0]) (λi=>[IV.int .i64 (i:Int)]) p 1 (λi=>[IV.int .i64 (i:Int)]) 0 [] l rfl (by have:=bg;omega)]
 ·cases l.findIdx? p<;>simp
 ·intro i x hx
  have hi:i < l.length:=(ad.1 hx).1
  have hc:=b x (a6 hx)
  unfold wH
  unfold eMv at hc
  simp only [af,ai,aA,aD,cp,cn,an,al,a2,wb hx,decide_true,ah,ab,hc,dr,au (show i < 2 ^ 62 by omega),if_true]
  cases p x<;>rfl
 ·unfold wH
  simp
theorem y9 {l:List Mv} (hl:l.length < 2 ^ 16) (m:Mv):jo (bh l) (.int .i64 m.c) (.int .i64 m.r) (.int .i64 m.par) (.int .i64 m.ch) (.str m.nm) (.flt .f64 m.rk)=some [bh (zx l m),.int .i64 (agm l m:Int),.bool (LA l m)]:=by
 unfold jo
 rw [Yf hl (p:=tmB m.c m.r)]
 ·simp only [ab,af,ax,an,al,a2,bw]
  unfold zx agm LA
  cases h:l.findIdx? (tmB m.c m.r) with
  | some i=>
    obtain ⟨hi,hp,_⟩:=a5.1 h
    have a:l.any (tmB m.c m.r)=true:=bs.2 ⟨l[i],List.getElem_mem hi,hp⟩
    simp [hi,a]
  | none=>
    have b:=List.findIdx?_eq_none_iff.1 h
    have a:l.any (tmB m.c m.r)=false:=by
     rw [List.any_eq_false];intro x hx;rw [b x hx];simp
    simp only [Option.getD_none,Nat.lt_irrefl,if_false,a,aB]
    rw [Yf hl (p:= λx=>befB m.c m.r x.c x.r)]
    ·have:=ZL hl (XZ l m) m
     unfold atV at this ⊢
     simp only [ab,U2 hl,af,this,bA]
    ·intro x _
     show cS (.int .i64 m.c) (.int .i64 m.r) (.int .i64 x.c) (.int .i64 x.r) (.int .i64 x.par) (.int .i64 x.ch) (.str x.nm) (.flt .f64 x.rk)=_
     unfold cS
     simp [jw]
 ·intro x _
  show kD (.int .i64 m.c) (.int .i64 m.r) (.int .i64 x.c) (.int .i64 x.r) (.int .i64 x.par) (.int .i64 x.ch) (.str x.nm) (.flt .f64 x.rk)=_
  unfold kD tmB
  simp only [Vx,KX,WX,if_true,ab,a1,bR,fR,eh]
  congr 3
  by_cases h1:x.c=m.c<;>by_cases h2:x.r=m.r<;>simp [h1,h2]
def uniV (a b:List Mv):List Mv:=b.foldl zx a
theorem Lb {a b:List Mv} (d:a.length < 2 ^ 15) (hb:b.length < 2 ^ 15):iD (bh a) (bh b)=some [bh (uniV a b)]:=by
 unfold iD uniV
 simp only [ax,ab]
 rw [kX (vs0:=[bh a,.int .i64 0]) (λi (v:List Mv)=>[bh v,.int .i64 (i:Int)]) zx 0 (λv=>[bh v]) (λi v=>v.length<=a.length+i) b a rfl (by have:=bg;omega) (by simp)]
 ·simp
 ·intro i s x hx c
  have hi:i < b.length:=(ad.1 hx).1
  have:=wj s x
  refine ⟨by omega,?_⟩
  unfold uG
  simp only [af,ai,aA,aD,cp,cn,an,al,a2,wb hx,decide_true,ah,ab,y9 (show s.length < 2 ^ 16 by omega),au (show i < 2 ^ 62 by omega)]
 ·intro s _
  unfold uG
  simp
def Cu (l:List Mv) (c r:Int):List Mv:=l.filter λm=>befB c r m.c m.r
theorem fold_filter {α:Type} (p:α->Bool): ∀(l k:List α),l.foldl (λs x=>if p x=true then s++[x] else s) k=k++l.filter p
 | [],k=>by simp
 | x::l,k=>by
   simp only [List.foldl_cons,List.filter_cons]
   rw [fold_filter]
   split<;>simp
theorem AA {l:List Mv} (hl:l.length < 2 ^ 16) (c r:Int):kT (bh l) (.int .i64 c) (.int .i64 r)=some [bh (Cu l c r)]:=by
 unfold kT
 simp only [ax,ab]
 rw [kX (vs0:=[.lst [],.int .i64 0]) (λi (v:List Mv)=>[bh v,.int .i64 (i:Int)]) (λs m=>if befB c r m.c m.r=true then s++[m] else s) 0 (λv=>[bh v]) (λi v=>v.length<=i) l [] rfl (by have:=bg;omega) (by simp)]
 ·rw [fold_filter (λm:Mv=>befB c r m.c m.r)]
  simp [Cu]
 ·intro i s x hx b
  have hi:i < l.length:=(ad.1 hx).1
  refine ⟨by split;(simp;omega);omega,?_⟩
  have a:IV.lst [[.int .i64 x.c,.int .i64 x.r,.int .i64 x.par,.int .i64 x.ch,.str x.nm,.flt .f64 x.rk]]=bh [x]:=rfl
  unfold uQ cS
  simp only [af,ai,aA,aD,cp,cn,an,al,a2,wb hx,decide_true,ah,ab,jw,fR,eh,a1,dr,au (show i < 2 ^ 62 by omega),a,KD (show s.length < 2 ^ 20 by omega) (show [x].length < 2 ^ 20 by simp)]
  cases befB c r x.c x.r<;>rfl
 ·intro s _
  unfold uQ
  simp
end Go.AM
namespace Go.AM
theorem ShOK.list_invP {α:Type} {enc:α->List IV} {Q:α->Prop} {L:List Sh} (hinv: ∀e,Typed L e-> ∃x,e=enc x/\Q x) {c:IV} (h:ShOK (.slc L) c): ∃l:List α,c= .lst (l.map enc)/\ ∀x∈l,Q x:=by
 cases h with
 | slc _ es hl h1 h2=>
   have: ∀e∈es,∃x,e=enc x/\Q x:= λe he=>by
    obtain ⟨i,hi⟩:=List.getElem?_of_mem he
    exact hinv e ⟨h1 e he,λj s c hs hc=>h2 i j e c s hi hc hs⟩
   have key: ∀(es:List (List IV)),(∀e∈es,∃x,e=enc x/\Q x)-> ∃l:List α,es=l.map enc/\ ∀x∈l,Q x:=by
    intro es
    induction es with
    | nil=>intro _;exact ⟨[],rfl,λx hx=>by simp at hx⟩
    | cons e es ih=>
      intro h
      obtain ⟨x,rfl,hx⟩:=h e bb
      obtain ⟨l,rfl,hl⟩:=ih λe he=>h e (a7 _ he)
      exact ⟨x::l,rfl,λy a=>by
       rcases bf.1 a with rfl | a
       ·exact hx
       ·exact hl y a⟩
   obtain ⟨l,rfl,b⟩:=key es this
   exact ⟨l,rfl,b⟩
theorem V5 {c r c' r':Int}:befB c r c' r'=true↔c < c'\/(c=c'/\r < r'):=by
 unfold befB;simp only [bx,bm,decide_eq_true_eq]
theorem Ww {a b:Mv}:EU a b=true↔a.c < b.c\/(a.c=b.c/\a.r < b.r):=V5
theorem Nl {a b c:Mv} (h:EU a b=true) (k:EU b c=true):EU a c=true:=by
 rw [Ww] at*;omega
def s6 (l:List Mv):Prop:=l.Pairwise λa b=>EU a b=true
theorem X3 {l:List Mv}:yL EU l=true↔s6 l:=by
 rw [F5]
 constructor
 ·intro h
  exact zf (R:= λa b=>EU a b=true) (λa b c=>Nl) λi hi=>h i l[i] l[i+1] (ao (by omega)) (ao hi)
 ·intro h i x y hx d
  obtain ⟨h1,rfl⟩:=ad.1 hx
  obtain ⟨h2,rfl⟩:=ad.1 d
  exact List.pairwise_iff_getElem.1 h i (i+1) h1 h2 (by omega)
def RK (m:Mv):List Mv->List Mv
 | []=>[m]
 | x::l=>if EU m x=true then m::x::l else x::RK m l
theorem YA (m:Mv): ∀l:List Mv,l.take (atV l m)++[m]++l.drop (atV l m)=RK m l
 | []=>rfl
 | x::l=>by
   have ih:=YA m l
   unfold atV at ih ⊢
   simp only [br,RK]
   by_cases h:EU m x=true
   ·have h':befB m.c m.r x.c x.r=true:=h
    simp [h,h']
   ·have h': ¬befB m.c m.r x.c x.r=true:=h
    simp only [h',if_false,h]
    rw [<-ih]
    cases l.findIdx? (λx=>befB m.c m.r x.c x.r)<;>simp
theorem aaY {l:List Mv} {m:Mv}:zx l m=if l.any (tmB m.c m.r)=true then l else RK m l:=by
 unfold zx;rw [YA]
theorem Lu {m:Mv}: ∀{l:List Mv} {x:Mv},x∈RK m l↔x=m\/x∈l
 | [],x=>by simp [RK]
 | y::l,x=>by
   simp only [RK]
   split
   ·simp
   ·simp only [bf,Lu]
    constructor
    ·rintro (h | h | h)<;>simp [h]
    ·rintro (h | h | h)<;>simp [h]
theorem Iq {m:Mv}: ∀{l:List Mv},s6 l->(∀x∈l,¬(x.c=m.c/\x.r=m.r))->s6 (RK m l)
 | [],_,_=>List.pairwise_singleton _ _
 | x::l,h,hn=>by
   obtain ⟨h1,h2⟩:=bd.1 h
   have hx:=hn x bb
   simp only [RK]
   split
   ·rename_i hb
    refine bd.2 ⟨λy a=> ?_,h⟩
    rcases bf.1 a with rfl | a
    ·exact hb
    ·exact Nl hb (h1 y a)
   ·rename_i hb
    refine bd.2 ⟨λy a=> ?_,Iq h2 λy a=>hn y (a7 _ a)⟩
    rcases Lu.1 a with rfl | a
    ·rw [Ww] at hb ⊢;omega
    ·exact h1 y a
theorem aam {l:List Mv} {c r:Int}:l.any (tmB c r)=true↔ ∃x∈l,x.c=c/\x.r=r:=by
 rw [bs]
 simp only [tmB,decide_eq_true_eq]
theorem IB {l:List Mv} {m:Mv} (h:s6 l):s6 (zx l m):=by
 rw [aaY]
 split
 ·exact h
 ·rename_i hn
  exact Iq h λx hx e=>hn (aam.2 ⟨x,hx,e⟩)
theorem xg {l:List Mv} {m x:Mv} (h:x∈zx l m):x=m\/x∈l:=by
 rw [aaY] at h
 split at h
 ·exact .inr h
 ·exact Lu.1 h
theorem Ih: ∀{b a:List Mv},s6 a->s6 (uniV a b)
 | [],a,h=>h
 | x::b,a,h=>Ih (b:=b) (IB h)
theorem Vd: ∀{b a:List Mv} {x:Mv},x∈uniV a b->x∈a\/x∈b
 | [],a,x,h=> .inl h
 | y::b,a,x,h=>by
   rcases Vd (b:=b) h with h | h
   ·rcases xg h with rfl | h
    ·exact .inr bb
    ·exact .inl h
   ·exact .inr (a7 _ h)
theorem gb {l:List Mv}:mayV l=true↔l.length<=2000/\(∀m∈l,oneV m=true)/\s6 l:=by
 unfold mayV
 simp only [bm,decide_eq_true_eq,List.all_eq_true,X3]
end Go.AM
namespace Go.AM
end Go.AM
