/- Rows, plainly: what the functions of a tree and their references do. -/
import Derived.Test.YtgoenohknokcmaaGreatMv
open Option renaming bind_some->ab,map_some->a2
open List renaming getElem?_eq_some_iff->ad,findIdx?_eq_some_iff_getElem->al,mem_cons_of_mem->ao,length_map->aB,mem_cons_self->a1,mem_of_getElem?->a5,mem_cons->a6,length_cons->a7,mem_append->a8,map_cons->bb
set_option linter.unusedVariables false
set_option linter.unusedSimpArgs false
namespace Go.AM
structure Rw where
 ch:Int
 par:Int
 nm:ByteArray
 rk:Nat
 deriving Inhabited
def Zh (r:Rw):List IV:=[.int .i64 r.ch,.int .i64 r.par,.str r.nm,.flt .f64 r.rk]
abbrev cU (l:List Rw):IV:= .lst (l.map Zh)
theorem Wj {l:List Rw} {i:Nat} {x:Rw} (h:l[i]? =some x):i < l.length/\aK (cU l) (.int .i64 (i:Int)) 4=some i/\eo (cU l) i 0 4=some [.int .i64 x.ch,.int .i64 x.par,.str x.nm,.flt .f64 x.rk]/\dh (cU l) i 0=some (.int .i64 x.ch)/\dh (cU l) i 1=some (.int .i64 x.par)/\dh (cU l) i 2=some (.str x.nm)/\dh (cU l) i 3=some (.flt .f64 x.rk)/\bU l.length (.int .i64 (i:Int))=some i:=
 ⟨(ad.1 h).1,dY h rfl (by decide),rM h rfl,cf h,cf h,cf h,cf h,dj (ad.1 h).1⟩
theorem adu {l:List Rw} {i:Nat} {x:Rw} (h:l[i]? =some x) (r:Rw):r8 (cU l) i 0 [.int .i64 r.ch,.int .i64 r.par,.str r.nm,.flt .f64 r.rk]=some (cU (l.set i r)):=by
 simp only [r8,List.getElem?_map,h,a2,ab,Zh,a7,List.length_nil]
 rw [if_pos (by decide)]
 simp only [cU,List.map_set]
 rfl
def EA (c:Int) (x:Rw):Bool:=decide (x.ch=c)
def atR (l:List Rw) (c:Int):Nat:=(l.findIdx? λx=>decide (c < x.ch)).getD l.length
def sR (l:List Rw) (c:Int):Option Rw:=l.find? (EA c)
def tN (l:List Rw) (r:Rw):List Rw:=match l.findIdx? (EA r.ch) with | some i=>l.set i r | none=>l.take (atR l r.ch)++[r]++l.drop (atR l r.ch)
theorem aeV (l:List Rw) (c:Int):atR l c<=l.length:=by
 unfold atR
 cases h:l.findIdx? λx=>decide (c < x.ch) with
 | none=>simp
 | some i=>have:=(al.1 h).1;simp;omega
def in64 (n:Int):Prop:= -(2 ^ 63)<=n/\n < 2 ^ 63
structure OKr (r:Rw):Prop where
 rk:r.rk < 2 ^ 64
 can:canF .f64 r.rk=r.rk
 ch:in64 r.ch
 par:in64 r.par
def OKl (l:List Rw):Prop:= ∀r∈l,OKr r
theorem Rs {n:Int} (h:in64 n):(Lit.int .i64 n).wf=true:=by
 have h1:IntKind.i64.min= -(2 ^ 63):=by rfl
 have h2:IntKind.i64.max=2 ^ 63 - 1:=by rfl
 simp only [Lit.wf,Bool.and_eq_true,decide_eq_true_eq]
 unfold in64 at h
 omega
theorem OKl.set {l:List Rw} {r:Rw} (h:OKl l) (hr:OKr r):OKl (tN l r):=by
 intro x hx
 unfold tN at hx
 split at hx
 ·rcases List.mem_or_eq_of_mem_set hx with hx | rfl
  ·exact h x hx
  ·exact hr
 ·rcases a8.1 hx with hx | hx
  ·rcases a8.1 hx with hx | hx
   ·exact h x (List.mem_of_mem_take hx)
   ·simp at hx;subst hx;exact hr
  ·exact h x (List.mem_of_mem_drop hx)
theorem VZ (l:List Rw) (r:Rw):(tN l r).length<=l.length+1:=by
 unfold tN
 split
 ·simp
 ·have:=aeV l r.ch
  simp;omega
theorem Dz {C:IV->List Nat->List (List IV)->Option (List IV)} {a:IV} {p:Rw->Bool} {l:List Rw} (hl:l.length < 2 ^ 16) (b: ∀x∈l,C a [1] [Zh x]=some [.bool (p x)]):
  bJ C (cU l) a=some [.int .i64 (Qe p l)]:=by
 unfold bJ
 simp only [ax,ab]
 rw [lM (vs0:=[IV.int .i64 0]) (λi=>[IV.int .i64 (i:Int)]) p 1 (λi=>[IV.int .i64 (i:Int)]) 0 [] l rfl (by have:=bg;omega)]
 ·unfold Qe
  cases l.findIdx? p<;>simp
 ·intro i x hx
  have hi:i < l.length:=(ad.1 hx).1
  have hc:=b x (a5 hx)
  unfold jF
  unfold Zh at hc
  simp only [af,ai,aA,aD,cp,cn,an,aB,Int.ofNat_lt,Wj hx,decide_true,ah,ab,hc,dr,au (show i < 2 ^ 62 by omega),if_true]
  cases p x<;>rfl
 ·unfold jF
  simp
theorem Ox {l:List Rw} (hl:l.length < 2 ^ 16) (c:Int):pZ (cU l) (.int .i64 c)=some [.int .i64 (Qe (EA c) l),.bool (decide (0<=Qe (EA c) l))]:=by
 unfold pZ
 rw [Dz hl (p:=EA c)]
 ·simp
 ·intro x _
  show l7 (.int .i64 x.ch) (.int .i64 x.par) (.str x.nm) (.flt .f64 x.rk) (.ptr [.int .i64 c] 0)=_
  unfold l7
  simp [iW,EA]
theorem QI {l:List Rw} (hl:l.length < 2 ^ 16) {i:Nat} (hi:i<=l.length) (r:Rw):dx (cU l) (.int .i64 (i:Int)) (.lst [[.int .i64 r.ch,.int .i64 r.par,.str r.nm,.flt .f64 r.rk]])=some [cU (l.take i++[r]++l.drop i)]:=by
 unfold dx
 simp only [tm]
 rw [if_pos]
 ·simp [Zh]
 ·refine ⟨by omega,by simp;omega,by simp;omega,rfl⟩
theorem abZ {l:List Rw} (hl:l.length < 2 ^ 16):fX (cU l)=some [cU l]:=by
 unfold fX
 simp only [uY]
 rw [if_pos]
 refine ⟨by simp;omega,by simp [Zh,IV.scalar]⟩
theorem Wx {l:List Rw} (hl:l.length < 2 ^ 16) (r:Rw):uo (cU l) (.int .i64 r.ch) (.int .i64 r.par) (.str r.nm) (.flt .f64 r.rk)=some [cU (tN l r)]:=by
 unfold uo tN
 rw [abZ hl]
 simp only [ab]
 rw [Ox hl]
 simp only [ab,ai,af,bw]
 cases h:l.findIdx? (EA r.ch) with
 | some i=>
   obtain ⟨x,hx,_⟩:=vZ h
   rw [A7 h,if_pos (Int.natCast_nonneg _)]
   simp only [bZ,aB,Wj hx,ab,adu hx]
 | none=>
   rw [Bw h,if_neg (by omega)]
   rw [Dz hl (p:= λx=>decide (r.ch < x.ch))]
   ·simp only [ab,af,an,bw,atR]
    cases hh:l.findIdx? (λx=>decide (r.ch < x.ch)) with
    | none=>
      have:=QI hl (Nat.le_refl _) r
      simp [Bw hh,this]
    | some i=>
      obtain ⟨hi,_⟩:=al.1 hh
      have:=QI hl (Nat.le_of_lt hi) r
      simp [A7 hh,this,show ¬((i:Int) < 0) by omega]
   ·intro x _
    show pU (.int .i64 x.ch) (.int .i64 x.par) (.str x.nm) (.flt .f64 x.rk) (.ptr [.int .i64 r.ch,.int .i64 r.par,.str r.nm,.flt .f64 r.rk] 0)=_
    unfold pU
    simp [iW,gA]
end Go.AM
namespace Go.AM
theorem Qp {f:Int->Option Int}: ∀{n m:Nat} {b:Int},n<=m-> ∀x,x∈upto f n b->x∈upto f m b
 | 0,m,b,_,x,h=>by simp [upto] at h
 | n+1,m+1,b,hle,x,h=>by
   unfold upto at h ⊢
   split
   ·rename_i hb;rw [hb] at h;exact h
   ·rename_i y hb
    rw [hb] at h
    rcases a6.1 h with rfl | h
    ·exact a1
    ·exact ao _ (Qp (by omega) x h)
def nodeAt (f:Int->Option Int):Nat->Int->Option Int
 | 0,b=>some b
 | n+1,b=>(f b).bind λy=>nodeAt f n y
theorem Gb {f:Int->Option Int}: ∀{n:Nat} {b x:Int},x∈upto f n b↔ ∃k,k < n/\nodeAt f (k+1) b=some x
 | 0,b,x=>by simp [upto]
 | n+1,b,x=>by
   unfold upto
   cases hb:f b with
   | none=>
     simp only [List.not_mem_nil,false_iff,not_exists,not_and]
     intro k _ h
     simp [nodeAt,hb] at h
   | some y=>
     simp only [a6]
     rw [Gb]
     constructor
     ·rintro (rfl | ⟨k,hk,h⟩)
      ·exact ⟨0,by omega,by simp [nodeAt,hb]⟩
      ·exact ⟨k+1,by omega,by rw [nodeAt,hb];exact h⟩
     ·rintro ⟨k,hk,h⟩
      rw [nodeAt,hb] at h
      cases k with
      | zero=>left;simpa [nodeAt] using h.symm
      | succ k=>right;exact ⟨k,by omega,h⟩
theorem iw {f:Int->Option Int}: ∀(j:Nat) {k:Nat} {b:Int},nodeAt f (j+k) b=(nodeAt f j b).bind (nodeAt f k)
 | 0,k,b=>by simp [nodeAt]
 | j+1,k,b=>by
   rw [show j+1+k=(j+k)+1 by omega,nodeAt,nodeAt]
   cases f b with
   | none=>rfl
   | some y=>simp only [ab];exact iw j
theorem ID {f:Int->Option Int} {n:Nat} {b x:Int} (h:nodeAt f n b=some x): ∀k,k<=n-> ∃y,nodeAt f k b=some y:=by
 intro k hk
 have:nodeAt f (k+(n - k)) b=some x:=by rw [show k+(n - k)=n by omega];exact h
 rw [iw] at this
 obtain ⟨y,h1,_⟩:=Option.bind_eq_some_iff.1 this
 exact ⟨y,h1⟩
theorem aeX {K:List Int} (g:Nat->Int): ∀n,K.length < n->(∀i,i < n->g i∈K)-> ∃i j,i < j/\j < n/\g i=g j:=by
 induction K generalizing g with
 | nil=>intro n hn h;exact absurd (h 0 (by simpa using hn)) (by simp)
 | cons x K ih=>
   intro n hn h
   by_cases hx: ∃i j,i < j/\j < n/\g i=g j
   ·exact hx
   ·exfalso
    have: ∃i0,i0 < n/\(∀i,i < n->g i=x->i=i0):=by
     by_cases h0: ∃i,i < n/\g i=x
     ·obtain ⟨i0,h1,h2⟩:=h0
      refine ⟨i0,h1,λi hi he=> ?_⟩
      rcases Nat.lt_trichotomy i i0 with hl | hl | hl
      ·exact absurd ⟨i,i0,hl,h1,he.trans h2.symm⟩ hx
      ·exact hl
      ·exact absurd ⟨i0,i,hl,hi,h2.trans he.symm⟩ hx
     ·exact ⟨0,by simp at hn;omega,λi hi he=>absurd ⟨i,hi,he⟩ h0⟩
    obtain ⟨i0,h1,h2⟩:=this
    obtain ⟨i,j,c,d,b⟩:=ih (λi=>g (if i < i0 then i else i+1)) (n - 1) (by simp at hn;omega) (λi hi=>by
     have a:(if i < i0 then i else i+1) < n:=by split<;>omega
     rcases a6.1 (h _ a) with he | he
     ·have:=h2 _ a he
      split at this<;>omega
     ·exact he)
    refine hx ⟨if i < i0 then i else i+1,if j < i0 then j else j+1,?_,?_,b⟩
    ·split<;>split<;>omega
    ·split<;>omega
theorem Gi {f:Int->Option Int} {K:List Int} (g: ∀x,(f x).isSome=true->x∈K) {b x:Int}: ∀n,nodeAt f (n+1) b=some x-> ∃k,k < K.length/\nodeAt f (k+1) b=some x:=by
 intro n
 induction n using Nat.strongRecOn with
 | ind n ih=>
   intro h
   by_cases hn:n < K.length
   ·exact ⟨n,hn,h⟩
   ·have d: ∀i,i < n+1-> ∃y,nodeAt f i b=some y/\y∈K:=by
     intro i hi
     obtain ⟨y,a⟩:=ID h i (by omega)
     obtain ⟨z,hz⟩:=ID h (i+1) (by omega)
     rw [iw,a] at hz
     simp only [ab,nodeAt] at hz
     refine ⟨y,a,g y ?_⟩
     cases hf:f y with
     | none=>rw [hf] at hz;simp at hz
     | some _=>rfl
    obtain ⟨i,j,h1,h2,c⟩:=aeX (K:=K) (λi=>(nodeAt f i b).getD 0) (n+1) (by omega) (λi hi=>by
     obtain ⟨y,a,hk⟩:=d i hi
     rw [a];exact hk)
    obtain ⟨l,hi,_⟩:=d i (by omega)
    obtain ⟨m,hj,_⟩:=d j h2
    rw [hi,hj] at c
    simp only [Option.getD_some] at c
    subst c
    have:nodeAt f (i+(n - j)+1) b=some x:=by
     rw [show i+(n - j)+1=i+(n+1 - j) by omega,iw,hi]
     have e:nodeAt f (j+(n+1 - j)) b=some x:=by rw [show j+(n+1 - j)=n+1 by omega];exact h
     rw [iw,hj] at e
     exact e
    exact ih (i+(n - j)) (by omega) this
theorem VK {f:Int->Option Int} {K:List Int} (a: ∀x,(f x).isSome=true->x∈K) {b:Int} {n:Nat} (hn:K.length<=n) (x:Int):x∈upto f n b↔x∈upto f K.length b:=by
 constructor
 ·intro h
  obtain ⟨k,_,h1⟩:=Gb.1 h
  obtain ⟨j,hj,h2⟩:=Gi a k h1
  exact Gb.2 ⟨j,hj,h2⟩
 ·exact Qp hn x
def NN (r:Rw):Int×Int:=(r.ch,r.par)
def TF (l:List Rw):Int->Option Int:=ph (l.map NN)
def AB (l:List Rw) (a b:Int):Bool:=(upto (TF l) l.length b).contains a
theorem M3 (l:List Rw) (c:Int):TF l c=(sR l c).map (·.par):=by
 unfold TF ph sR
 induction l with
 | nil=>rfl
 | cons x l ih=>
   simp only [bb,List.find?_cons]
   have e:((NN x).1==c)=EA c x:=by unfold NN EA;by_cases h:x.ch=c<;>simp [h]
   rw [e]
   cases EA c x with
   | true=>rfl
   | false=>exact ih
theorem contains_iff {l:List Int} {x:Int}:l.contains x=true↔x∈l:=by simp
theorem abK {r:Rw} (h:OKr r):Kj (Zh r)=some (NN r):=by
 unfold Kj Zh
 simp only
 rw [if_pos ⟨Rs h.ch,Rs h.par⟩]
 rfl
theorem Hv: ∀{l:List Rw},OKl l->(l.map Zh).mapM Kj=some (l.map NN)
 | [],_=>rfl
 | r::l,h=>by
   rw [bb,List.mapM_cons,abK (h r a1),Hv λx hx=>h x (ao _ hx)]
   rfl
theorem GA (l:List Rw) (a b:Int):(upto (ph (l.map NN)) (dE (l.map NN)).length b).contains a=AB l a b:=by
 unfold AB TF
 have h:=VK (f:=ph (l.map NN)) (K:=dE (l.map NN)) (λx hx=>(uy _ x).2 hx) (b:=b) (n:=l.length) (by have:=FN (l.map NN);simpa using this) a
 cases h1:(upto (ph (l.map NN)) (dE (l.map NN)).length b).contains a<;>cases h2:(upto (ph (l.map NN)) l.length b).contains a<;>simp_all
theorem OM {l:List Rw} (hl:l.length < 2 ^ 16) (c:OKl l) (a:Int) {b:Int} (hb:in64 b):th (cU l) (.int .i64 a) (.int .i64 b)=some [.bool (AB l a b)]:=by
 unfold th Ns
 simp only [aB]
 rw [if_pos ⟨by omega,Rs hb⟩,Hv c,a2,GA]
def ON (l:List Rw) (m:Mv):Bool:=decide (m.ch=0)||decide (m.ch=m.par)||AB l m.ch m.par
structure OKm (m:Mv):Prop where
 rk:m.rk < 2 ^ 64
 can:canF .f64 m.rk=m.rk
 ch:in64 m.ch
 par:in64 m.par
def rowOf (m:Mv):Rw:=⟨m.ch,m.par,m.nm,m.rk⟩
theorem OKm.row {m:Mv} (h:OKm m):OKr (rowOf m):=⟨h.rk,h.can,h.ch,h.par⟩
def RA (l:List Rw) (m:Mv):List Rw:=if ON l m=true then l else tN l (rowOf m)
theorem OKl.RA {l:List Rw} {m:Mv} (h:OKl l) (hm:OKm m):OKl (RA l m):=by
 unfold AM.RA
 split
 ·exact h
 ·exact h.set hm.row
theorem yt (l:List Rw) (m:Mv):(RA l m).length<=l.length+1:=by
 unfold RA
 split
 ·omega
 ·exact VZ _ _
theorem Lf {l:List Rw} (hl:l.length < 2 ^ 16) (a:OKl l) {m:Mv} (hm:OKm m):nL (cU l) (.int .i64 m.c) (.int .i64 m.r) (.int .i64 m.par) (.int .i64 m.ch) (.str m.nm) (.flt .f64 m.rk)=some [.bool (ON l m)]:=by
 unfold nL ON
 simp only [db,ab,bw]
 by_cases h1:m.ch=0
 ·simp [h1]
 ·by_cases h2:m.ch=m.par
  ·simp [h1,h2]
  ·simp only [h1,h2,if_false,OM hl a m.ch hm.par,ab,af,fR,eh,a2,decide_false,Bool.false_or]
theorem WB {l:List Rw} (hl:l.length < 2 ^ 16) (a:OKl l) {m:Mv} (hm:OKm m):wV (cU l) (.int .i64 m.c) (.int .i64 m.r) (.int .i64 m.par) (.int .i64 m.ch) (.str m.nm) (.flt .f64 m.rk)=some [cU (RA l m),.bool (!ON l m)]:=by
 unfold wV RA
 simp only [Lf hl a hm,ab,af,dr]
 cases h:ON l m with
 | true=>simp
 | false=>
   have:=Wx hl (rowOf m)
   simp only [rowOf] at this
   simp only [Bool.false_eq_true,if_false,EZ m,ab,af,ai,aA,aD,this,Bool.not_false]
   rfl
def allV (l:List Rw) (ms:List Mv):List Rw:=ms.foldl RA l
theorem OKl.allV: ∀{ms:List Mv} {l:List Rw},OKl l->(∀m∈ms,OKm m)->OKl (allV l ms)
 | [],l,h,_=>h
 | m::ms,l,h,hm=>OKl.allV (ms:=ms) (h.RA (hm m a1)) λx hx=>hm x (ao _ hx)
theorem AE: ∀(ms:List Mv) (l:List Rw),(allV l ms).length<=l.length+ms.length
 | [],l=>Nat.le_refl _
 | m::ms,l=>by
   have h1:=AE ms (RA l m)
   have h2:=yt l m
   show (allV (RA l m) ms).length<=_
   simp only [a7]
   omega
theorem IP {l:List Rw} {ms:List Mv} (hl:l.length+ms.length < 2 ^ 16) (d:OKl l) (hm: ∀m∈ms,OKm m):qC (cU l) (bh ms)=some [cU (allV l ms)]:=by
 unfold qC
 simp only [ax,ab]
 rw [kX (vs0:=[cU l,.int .i64 0]) (λi (s:List Rw)=>[cU s,.int .i64 (i:Int)]) RA 0 (λs=>[cU s]) (λi s=>OKl s/\s.length<=l.length+i) ms l rfl (by have:=bg;omega) ⟨d,by omega⟩]
 ·simp [allV]
 ·intro i s x hx b
  have hi:i < ms.length:=(ad.1 hx).1
  have a:=hm x (a5 hx)
  refine ⟨⟨b.1.RA a,by have:=yt s x;omega⟩,?_⟩
  unfold BN
  have c:=WB (l:=s) (by omega) b.1 a
  simp only [af,ai,aA,aD,cp,cn,an,aB,Int.ofNat_lt,hi,wb hx,decide_true,ah,ab,c,au (show i < 2 ^ 62 by omega)]
 ·intro s _
  unfold BN
  simp
end Go.AM
namespace Go.AM
structure Stp where
 mv:Mv
 moved:Bool
 had:Bool
 old:Rw
structure OKs (s:Stp):Prop where
 mv:OKm s.mv
 old:OKr s.old
structure KeyO where
 moved:Bool
 had:Bool
 old:Int×Int×List UInt8×Nat
 deriving DecidableEq
structure KeyS where
 m:Key
 o:KeyO
 deriving DecidableEq
end Go.AM
namespace Go.AM
theorem acV {k:Int} (h:(Lit.int .i64 k).wf=true):in64 k:=by
 have h1:IntKind.i64.min= -(2 ^ 63):=by rfl
 have h2:IntKind.i64.max=2 ^ 63 - 1:=by rfl
 simp only [Lit.wf,Bool.and_eq_true,decide_eq_true_eq] at h
 unfold in64
 omega
theorem BW {c:IV} (h:ShOK (.int .i64) c): ∃n,c= .int .i64 n/\in64 n:=by
 cases h with | int k n hw=>exact ⟨n,rfl,acV hw⟩
theorem adM {c:IV} (h:ShOK (.flt .f64) c): ∃n,c= .flt .f64 n/\n < 2 ^ 64/\canF .f64 n=n:=by
 cases h with | flt k n hw hc=>simp only [Lit.wf,decide_eq_true_eq] at hw;exact ⟨n,rfl,hw,hc⟩
end Go.AM
namespace Go.AM
def OZ (r:Rw):Bool:=RF r.ch r.par r.nm
def YY (a b:Rw):Bool:=decide (a.ch < b.ch)
def mayR (l:List Rw):Bool:=decide (l.length<=2000)&&(l.all OZ&&yL YY l&& !l.any λr=>AB l r.ch r.ch)
end Go.AM
