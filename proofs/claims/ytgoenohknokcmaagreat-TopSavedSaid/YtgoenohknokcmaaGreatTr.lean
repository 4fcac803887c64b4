/- Rows, plainly: what the functions of a tree and their references do. -/
import Derived.Test.YtgoenohknokcmaaGreatMv
open Option renaming bind_some->ab,map_some->a5
open List renaming getElem?_eq_some_iff->ad,length_map->ao,mem_of_getElem?->aB,findIdx?_eq_some_iff_getElem->a1,mem_cons_of_mem->a2,mem_cons_self->a6,mem_cons->a7,length_cons->a8,mem_append->bb,map_cons->bd
set_option linter.unusedVariables false
set_option linter.unusedSimpArgs false
namespace Go.AM
structure Rw where
 ch:Int
 par:Int
 nm:ByteArray
 rk:Nat
 deriving Inhabited
def Zq (r:Rw):List IV:=[.int .i64 r.ch,.int .i64 r.par,.str r.nm,.flt .f64 r.rk]
abbrev cr (l:List Rw):IV:= .lst (l.map Zq)
theorem Qt {l:List Rw} {i:Nat} {x:Rw} (h:l[i]? =some x):i < l.length/\aK (cr l) (.int .i64 (i:Int)) 4=some i/\dN (cr l) i 0 4=some [.int .i64 x.ch,.int .i64 x.par,.str x.nm,.flt .f64 x.rk]/\dU (cr l) i 0=some (.int .i64 x.ch)/\dU (cr l) i 1=some (.int .i64 x.par)/\dU (cr l) i 2=some (.str x.nm)/\dU (cr l) i 3=some (.flt .f64 x.rk)/\cA l.length (.int .i64 (i:Int))=some i:=
 ⟨(ad.1 h).1,ea h rfl (by decide),rK h rfl,b8 h,b8 h,b8 h,b8 h,e9 (ad.1 h).1⟩
theorem adE {l:List Rw} {i:Nat} {x:Rw} (h:l[i]? =some x) (r:Rw):rU (cr l) i 0 [.int .i64 r.ch,.int .i64 r.par,.str r.nm,.flt .f64 r.rk]=some (cr (l.set i r)):=by
 simp only [rU,List.getElem?_map,h,a5,ab,Zq,a8,List.length_nil]
 rw [if_pos (by decide)]
 simp only [cr,List.map_set]
 rfl
def Ey (c:Int) (x:Rw):Bool:=decide (x.ch=c)
def atR (l:List Rw) (c:Int):Nat:=(l.findIdx? λx=>decide (c < x.ch)).getD l.length
def sw (l:List Rw) (c:Int):Option Rw:=l.find? (Ey c)
def uk (l:List Rw) (r:Rw):List Rw:=match l.findIdx? (Ey r.ch) with | some i=>l.set i r | none=>l.take (atR l r.ch)++[r]++l.drop (atR l r.ch)
theorem afw (l:List Rw) (c:Int):atR l c<=l.length:=by
 unfold atR
 cases h:l.findIdx? λx=>decide (c < x.ch) with
 | none=>simp
 | some i=>have:=(a1.1 h).1;simp;omega
def in64 (n:Int):Prop:= -(2 ^ 63)<=n/\n < 2 ^ 63
structure OKr (r:Rw):Prop where
 rk:r.rk < 2 ^ 64
 can:canF .f64 r.rk=r.rk
 ch:in64 r.ch
 par:in64 r.par
def OKl (l:List Rw):Prop:= ∀r∈l,OKr r
theorem TH {n:Int} (h:in64 n):(Lit.int .i64 n).wf=true:=by
 have h1:IntKind.i64.min= -(2 ^ 63):=by rfl
 have h2:IntKind.i64.max=2 ^ 63 - 1:=by rfl
 simp only [Lit.wf,Bool.and_eq_true,decide_eq_true_eq]
 unfold in64 at h
 omega
theorem OKl.set {l:List Rw} {r:Rw} (h:OKl l) (hr:OKr r):OKl (uk l r):=by
 intro x a
 unfold uk at a
 split at a
 ·rcases List.mem_or_eq_of_mem_set a with a | rfl
  ·exact h x a
  ·exact hr
 ·rcases bb.1 a with a | a
  ·rcases bb.1 a with a | a
   ·exact h x (List.mem_of_mem_take a)
   ·simp at a;subst a;exact hr
  ·exact h x (List.mem_of_mem_drop a)
theorem WK (l:List Rw) (r:Rw):(uk l r).length<=l.length+1:=by
 unfold uk
 split
 ·simp
 ·have:=afw l r.ch
  simp;omega
theorem Dr {C:IV->List Nat->List (List IV)->Option (List IV)} {b:IV} {p:Rw->Bool} {l:List Rw} (hl:l.length < 2 ^ 16) (c: ∀x∈l,C b [1] [Zq x]=some [.bool (p x)]):
  bF C (cr l) b=some [.int .i64 (QT p l)]:=by
 unfold bF
 simp only [aw,ab]
 rw [lP (vs0:=[IV.int .i64 0]) (λi=>[IV.int .i64 (i:Int)]) p 1 (λi=>[IV.int .i64 (i:Int)]) 0 [] l rfl (by have:=aI;omega)]
 ·unfold QT
  cases l.findIdx? p<;>simp
 ·intro i x a
  have hi:i < l.length:=(ad.1 a).1
  have hc:=c x (aB a)
  unfold iZ
  unfold Zq at hc
  simp only [af,ai,ay,az,bH,bL,al,ao,Int.ofNat_lt,Qt a,decide_true,ah,ab,hc,cm,au (show i < 2 ^ 62 by omega),if_true]
  cases p x<;>rfl
 ·unfold iZ
  simp
theorem P8 {l:List Rw} (hl:l.length < 2 ^ 16) (c:Int):pN (cr l) (.int .i64 c)=some [.int .i64 (QT (Ey c) l),.bool (decide (0<=QT (Ey c) l))]:=by
 unfold pN
 rw [Dr hl (p:=Ey c)]
 ·simp
 ·intro x _
  show kX (.int .i64 x.ch) (.int .i64 x.par) (.str x.nm) (.flt .f64 x.rk) (.ptr [.int .i64 c] 0)=_
  unfold kX
  simp [iM,Ey]
theorem Ql {l:List Rw} (hl:l.length < 2 ^ 16) {i:Nat} (hi:i<=l.length) (r:Rw):dy (cr l) (.int .i64 (i:Int)) (.lst [[.int .i64 r.ch,.int .i64 r.par,.str r.nm,.flt .f64 r.rk]])=some [cr (l.take i++[r]++l.drop i)]:=by
 unfold dy
 simp only [sP]
 rw [if_pos]
 ·simp [Zq]
 ·refine ⟨by omega,by simp;omega,by simp;omega,rfl⟩
theorem abx {l:List Rw} (hl:l.length < 2 ^ 16):fW (cr l)=some [cr l]:=by
 unfold fW
 simp only [ux]
 rw [if_pos]
 refine ⟨by simp;omega,by simp [Zq,IV.scalar]⟩
theorem Wk {l:List Rw} (hl:l.length < 2 ^ 16) (r:Rw):tT (cr l) (.int .i64 r.ch) (.int .i64 r.par) (.str r.nm) (.flt .f64 r.rk)=some [cr (uk l r)]:=by
 unfold tT uk
 rw [abx hl]
 simp only [ab]
 rw [P8 hl]
 simp only [ab,ai,af,aZ]
 cases h:l.findIdx? (Ey r.ch) with
 | some i=>
   obtain ⟨x,a,_⟩:=vj h
   rw [Bh h,if_pos (Int.natCast_nonneg _)]
   simp only [cx,ao,Qt a,ab,adE a]
 | none=>
   rw [Az h,if_neg (by omega)]
   rw [Dr hl (p:= λx=>decide (r.ch < x.ch))]
   ·simp only [ab,af,al,aZ,atR]
    cases hh:l.findIdx? (λx=>decide (r.ch < x.ch)) with
    | none=>
      have:=Ql hl (Nat.le_refl _) r
      simp [Az hh,this]
    | some i=>
      obtain ⟨hi,_⟩:=a1.1 hh
      have:=Ql hl (Nat.le_of_lt hi) r
      simp [Bh hh,this,show ¬((i:Int) < 0) by omega]
   ·intro x _
    show py (.int .i64 x.ch) (.int .i64 x.par) (.str x.nm) (.flt .f64 x.rk) (.ptr [.int .i64 r.ch,.int .i64 r.par,.str r.nm,.flt .f64 r.rk] 0)=_
    unfold py
    simp [iM,gu]
def DW (r:Rw):Int×Int×List UInt8×Nat:=(r.ch,r.par,r.nm.toList,bitsN r.rk)
def Q0 (a b:List Rw):Bool:=decide (a.map DW=b.map DW)
theorem R1 {a b:Rw} (h:a.rk < 2 ^ 64) (h':b.rk < 2 ^ 64):ig (.int .i64 a.ch) (.int .i64 a.par) (.str a.nm) (.flt .f64 a.rk) (.int .i64 b.ch) (.int .i64 b.par) (.str b.nm) (.flt .f64 b.rk)=some [.bool (decide (DW a=DW b))]:=by
 rw [AB h h']
 simp [DW,Prod.mk.injEq]
theorem wj {a b:List Rw} (j:a.length < 2 ^ 16) (d: ∀r∈a,r.rk < 2 ^ 64) (f: ∀r∈b,r.rk < 2 ^ 64):jN (cr a) (cr b)=some [.bool (Q0 a b)]:=by
 unfold jN Q0
 simp only [aw,ab,di,ao,aZ]
 by_cases hlen:a.length=b.length
 ·rw [if_neg (by omega)]
  rw [qI (vs0:=[.int .i64 0]) (λi=>[IV.int .i64 (i:Int)]) (λi x=>decide ((b[i]?).map DW≠some (DW x))) 1 [.bool false] 0 [] a rfl (by have:=aI;omega),any_keys hlen (b0:=b) (λi=>by rw [Nat.zero_add])]
  ·by_cases h:a.map DW=b.map DW<;>simp [h]
  ·intro i x g
   have hi:i < a.length:=(ad.1 g).1
   have c:b[i]? =some (b[i]'(by omega)):=List.getElem?_eq_getElem (by omega)
   generalize b[i]'(by omega)=y at c
   have hk:=R1 (d x (aB g)) (f y (aB c))
   unfold vW
   simp only [aw,ab,af,ai,ay,az,bH,bL,al,ao,Int.ofNat_lt,Qt g,Qt c,decide_true,ah,hk,aX,cm,au (show i < 2 ^ 62 by omega),c,a5,if_true]
   by_cases h:DW x=DW y
   ·simp [h]
   ·have: ¬DW y=DW x:= λe=>h e.symm
    simp [h,this]
  ·unfold vW
   simp
 ·rw [if_pos (by omega)]
  have: ¬a.map DW=b.map DW:= λh=>hlen (by have:=congrArg List.length h;simpa using this)
  simp [this]
theorem DL (a:List Rw):Q0 a a=true:=by simp [Q0]
end Go.AM
namespace Go.AM
theorem Qo {f:Int->Option Int}: ∀{n m:Nat} {b:Int},n<=m-> ∀x,x∈upto f n b->x∈upto f m b
 | 0,m,b,_,x,h=>by simp [upto] at h
 | n+1,m+1,b,hle,x,h=>by
   unfold upto at h ⊢
   split
   ·rename_i hb;rw [hb] at h;exact h
   ·rename_i y hb
    rw [hb] at h
    rcases a7.1 h with rfl | h
    ·exact a6
    ·exact a2 _ (Qo (by omega) x h)
def nodeAt (f:Int->Option Int):Nat->Int->Option Int
 | 0,b=>some b
 | n+1,b=>(f b).bind λy=>nodeAt f n y
theorem FV {f:Int->Option Int}: ∀{n:Nat} {b x:Int},x∈upto f n b↔ ∃k,k < n/\nodeAt f (k+1) b=some x
 | 0,b,x=>by simp [upto]
 | n+1,b,x=>by
   unfold upto
   cases hb:f b with
   | none=>
     simp only [List.not_mem_nil,false_iff,not_exists,not_and]
     intro k _ h
     simp [nodeAt,hb] at h
   | some y=>
     simp only [a7]
     rw [FV]
     constructor
     ·rintro (rfl | ⟨k,hk,h⟩)
      ·exact ⟨0,by omega,by simp [nodeAt,hb]⟩
      ·exact ⟨k+1,by omega,by rw [nodeAt,hb];exact h⟩
     ·rintro ⟨k,hk,h⟩
      rw [nodeAt,hb] at h
      cases k with
      | zero=>left;simpa [nodeAt] using h.symm
      | succ k=>right;exact ⟨k,by omega,h⟩
theorem iv {f:Int->Option Int}: ∀(j:Nat) {k:Nat} {b:Int},nodeAt f (j+k) b=(nodeAt f j b).bind (nodeAt f k)
 | 0,k,b=>by simp [nodeAt]
 | j+1,k,b=>by
   rw [show j+1+k=(j+k)+1 by omega,nodeAt,nodeAt]
   cases f b with
   | none=>rfl
   | some y=>simp only [ab];exact iv j
theorem I2 {f:Int->Option Int} {n:Nat} {b x:Int} (h:nodeAt f n b=some x): ∀k,k<=n-> ∃y,nodeAt f k b=some y:=by
 intro k hk
 have:nodeAt f (k+(n - k)) b=some x:=by rw [show k+(n - k)=n by omega];exact h
 rw [iv] at this
 obtain ⟨y,h1,_⟩:=Option.bind_eq_some_iff.1 this
 exact ⟨y,h1⟩
theorem aey {K:List Int} (g:Nat->Int): ∀n,K.length < n->(∀i,i < n->g i∈K)-> ∃i j,i < j/\j < n/\g i=g j:=by
 induction K generalizing g with
 | nil=>intro n hn h;exact absurd (h 0 (by simpa using hn)) (by simp)
 | cons x K ih=>
   intro n hn h
   by_cases b: ∃i j,i < j/\j < n/\g i=g j
   ·exact b
   ·exfalso
    have: ∃i0,i0 < n/\(∀i,i < n->g i=x->i=i0):=by
     by_cases h0: ∃i,i < n/\g i=x
     ·obtain ⟨i0,h1,h2⟩:=h0
      refine ⟨i0,h1,λi hi he=> ?_⟩
      rcases Nat.lt_trichotomy i i0 with hl | hl | hl
      ·exact absurd ⟨i,i0,hl,h1,he.trans h2.symm⟩ b
      ·exact hl
      ·exact absurd ⟨i0,i,hl,hi,h2.trans he.symm⟩ b
     ·exact ⟨0,by simp at hn;omega,λi hi he=>absurd ⟨i,hi,he⟩ h0⟩
    obtain ⟨i0,h1,h2⟩:=this
    obtain ⟨i,j,d,e,c⟩:=ih (λi=>g (if i < i0 then i else i+1)) (n - 1) (by simp at hn;omega) (λi hi=>by
     have a:(if i < i0 then i else i+1) < n:=by split<;>omega
     rcases a7.1 (h _ a) with he | he
     ·have:=h2 _ a he
      split at this<;>omega
     ·exact he)
    refine b ⟨if i < i0 then i else i+1,if j < i0 then j else j+1,?_,?_,c⟩
    ·split<;>split<;>omega
    ·split<;>omega
theorem Gc {f:Int->Option Int} {K:List Int} (g: ∀x,(f x).isSome=true->x∈K) {b x:Int}: ∀n,nodeAt f (n+1) b=some x-> ∃k,k < K.length/\nodeAt f (k+1) b=some x:=by
 intro n
 induction n using Nat.strongRecOn with
 | ind n ih=>
   intro h
   by_cases hn:n < K.length
   ·exact ⟨n,hn,h⟩
   ·have d: ∀i,i < n+1-> ∃y,nodeAt f i b=some y/\y∈K:=by
     intro i hi
     obtain ⟨y,a⟩:=I2 h i (by omega)
     obtain ⟨z,hz⟩:=I2 h (i+1) (by omega)
     rw [iv,a] at hz
     simp only [ab,nodeAt] at hz
     refine ⟨y,a,g y ?_⟩
     cases hf:f y with
     | none=>rw [hf] at hz;simp at hz
     | some _=>rfl
    obtain ⟨i,j,h1,h2,c⟩:=aey (K:=K) (λi=>(nodeAt f i b).getD 0) (n+1) (by omega) (λi hi=>by
     obtain ⟨y,a,hk⟩:=d i hi
     rw [a];exact hk)
    obtain ⟨l,hi,_⟩:=d i (by omega)
    obtain ⟨m,hj,_⟩:=d j h2
    rw [hi,hj] at c
    simp only [Option.getD_some] at c
    subst c
    have:nodeAt f (i+(n - j)+1) b=some x:=by
     rw [show i+(n - j)+1=i+(n+1 - j) by omega,iv,hi]
     have e:nodeAt f (j+(n+1 - j)) b=some x:=by rw [show j+(n+1 - j)=n+1 by omega];exact h
     rw [iv,hj] at e
     exact e
    exact ih (i+(n - j)) (by omega) this
theorem Ue {f:Int->Option Int} {K:List Int} (a: ∀x,(f x).isSome=true->x∈K) {b:Int} {n:Nat} (hn:K.length<=n) (x:Int):x∈upto f n b↔x∈upto f K.length b:=by
 constructor
 ·intro h
  obtain ⟨k,_,h1⟩:=FV.1 h
  obtain ⟨j,hj,h2⟩:=Gc a k h1
  exact FV.2 ⟨j,hj,h2⟩
 ·exact Qo hn x
def NX (r:Rw):Int×Int:=(r.ch,r.par)
def Wf (l:List Rw):Int->Option Int:=oP (l.map NX)
def Bx (l:List Rw) (a b:Int):Bool:=(upto (Wf l) l.length b).contains a
theorem MD (l:List Rw) (c:Int):Wf l c=(sw l c).map (·.par):=by
 unfold Wf oP sw
 induction l with
 | nil=>rfl
 | cons x l ih=>
   simp only [bd,List.find?_cons]
   have e:((NX x).1==c)=Ey c x:=by unfold NX Ey;by_cases h:x.ch=c<;>simp [h]
   rw [e]
   cases Ey c x with
   | true=>rfl
   | false=>exact ih
theorem contains_iff {l:List Int} {x:Int}:l.contains x=true↔x∈l:=by simp
theorem aa1 {r:Rw} (h:OKr r):J0 (Zq r)=some (NX r):=by
 unfold J0 Zq
 simp only
 rw [if_pos ⟨TH h.ch,TH h.par⟩]
 rfl
theorem HK: ∀{l:List Rw},OKl l->(l.map Zq).mapM J0=some (l.map NX)
 | [],_=>rfl
 | r::l,h=>by
   rw [bd,List.mapM_cons,aa1 (h r a6),HK λx a=>h x (a2 _ a)]
   rfl
theorem Ha (l:List Rw) (a b:Int):(upto (oP (l.map NX)) (dE (l.map NX)).length b).contains a=Bx l a b:=by
 unfold Bx Wf
 have h:=Ue (f:=oP (l.map NX)) (K:=dE (l.map NX)) (λx c=>(ud _ x).2 c) (b:=b) (n:=l.length) (by have:=Gk (l.map NX);simpa using this) a
 cases h1:(upto (oP (l.map NX)) (dE (l.map NX)).length b).contains a<;>cases h2:(upto (oP (l.map NX)) l.length b).contains a<;>simp_all
theorem Px {l:List Rw} (hl:l.length < 2 ^ 16) (c:OKl l) (a:Int) {b:Int} (hb:in64 b):sU (cr l) (.int .i64 a) (.int .i64 b)=some [.bool (Bx l a b)]:=by
 unfold sU MP
 simp only [ao]
 rw [if_pos ⟨by omega,TH hb⟩,HK c,a5,Ha]
def P9 (l:List Rw) (m:Mv):Bool:=decide (m.ch=0)||decide (m.ch=m.par)||Bx l m.ch m.par
structure OKm (m:Mv):Prop where
 rk:m.rk < 2 ^ 64
 can:canF .f64 m.rk=m.rk
 ch:in64 m.ch
 par:in64 m.par
def rowOf (m:Mv):Rw:=⟨m.ch,m.par,m.nm,m.rk⟩
theorem OKm.row {m:Mv} (h:OKm m):OKr (rowOf m):=⟨h.rk,h.can,h.ch,h.par⟩
def TC (l:List Rw) (m:Mv):List Rw:=if P9 l m=true then l else uk l (rowOf m)
theorem OKl.TC {l:List Rw} {m:Mv} (h:OKl l) (hm:OKm m):OKl (TC l m):=by
 unfold AM.TC
 split
 ·exact h
 ·exact h.set hm.row
theorem xK (l:List Rw) (m:Mv):(TC l m).length<=l.length+1:=by
 unfold TC
 split
 ·omega
 ·exact WK _ _
theorem NP {l:List Rw} (hl:l.length < 2 ^ 16) (a:OKl l) {m:Mv} (hm:OKm m):m6 (cr l) (.int .i64 m.c) (.int .i64 m.r) (.int .i64 m.par) (.int .i64 m.ch) (.str m.nm) (.flt .f64 m.rk)=some [.bool (P9 l m)]:=by
 unfold m6 P9
 simp only [dP,ab,aZ]
 by_cases h1:m.ch=0
 ·simp [h1]
 ·by_cases h2:m.ch=m.par
  ·simp [h1,h2]
  ·simp only [h1,h2,if_false,Px hl a m.ch hm.par,ab,af,df,cX,a5,decide_false,Bool.false_or]
theorem XQ {l:List Rw} (hl:l.length < 2 ^ 16) (a:OKl l) {m:Mv} (hm:OKm m):wv (cr l) (.int .i64 m.c) (.int .i64 m.r) (.int .i64 m.par) (.int .i64 m.ch) (.str m.nm) (.flt .f64 m.rk)=some [cr (TC l m),.bool (!P9 l m)]:=by
 unfold wv TC
 simp only [NP hl a hm,ab,af,cm]
 cases h:P9 l m with
 | true=>simp
 | false=>
   have:=Wk hl (rowOf m)
   simp only [rowOf] at this
   simp only [Bool.false_eq_true,if_false,ER m,ab,af,ai,ay,az,this,Bool.not_false]
   rfl
def allV (l:List Rw) (ms:List Mv):List Rw:=ms.foldl TC l
theorem OKl.allV: ∀{ms:List Mv} {l:List Rw},OKl l->(∀m∈ms,OKm m)->OKl (allV l ms)
 | [],l,h,_=>h
 | m::ms,l,h,hm=>OKl.allV (ms:=ms) (h.TC (hm m a6)) λx a=>hm x (a2 _ a)
theorem rj: ∀(ms:List Mv) (l:List Rw),(allV l ms).length<=l.length+ms.length
 | [],l=>Nat.le_refl _
 | m::ms,l=>by
   have h1:=rj ms (TC l m)
   have h2:=xK l m
   show (allV (TC l m) ms).length<=_
   simp only [a8]
   omega
theorem Io {l:List Rw} {ms:List Mv} (hl:l.length+ms.length < 2 ^ 16) (e:OKl l) (hm: ∀m∈ms,OKm m):qv (cr l) (bg ms)=some [cr (allV l ms)]:=by
 unfold qv
 simp only [aw,ab]
 rw [mI (vs0:=[cr l,.int .i64 0]) (λi (s:List Rw)=>[cr s,.int .i64 (i:Int)]) TC 0 (λs=>[cr s]) (λi s=>OKl s/\s.length<=l.length+i) ms l rfl (by have:=aI;omega) ⟨e,by omega⟩]
 ·simp [allV]
 ·intro i s x b c
  have hi:i < ms.length:=(ad.1 b).1
  have a:=hm x (aB b)
  refine ⟨⟨c.1.TC a,by have:=xK s x;omega⟩,?_⟩
  unfold Ba
  have d:=XQ (l:=s) (by omega) c.1 a
  simp only [af,ai,ay,az,bH,bL,al,ao,Int.ofNat_lt,hi,uX b,decide_true,ah,ab,d,au (show i < 2 ^ 62 by omega)]
 ·intro s _
  unfold Ba
  simp
end Go.AM
namespace Go.AM
structure Stp where
 mv:Mv
 moved:Bool
 had:Bool
 old:Rw
structure OKs (s:Stp):Prop where
 mv:OKm s.mv
 old:OKr s.old
structure KeyO where
 moved:Bool
 had:Bool
 old:Int×Int×List UInt8×Nat
 deriving DecidableEq
structure KeyS where
 m:Key
 o:KeyO
 deriving DecidableEq
end Go.AM
namespace Go.AM
theorem adY {k:Int} (h:(Lit.int .i64 k).wf=true):in64 k:=by
 have h1:IntKind.i64.min= -(2 ^ 63):=by rfl
 have h2:IntKind.i64.max=2 ^ 63 - 1:=by rfl
 simp only [Lit.wf,Bool.and_eq_true,decide_eq_true_eq] at h
 unfold in64
 omega
theorem qO {c:IV} (h:ShOK (.int .i64) c): ∃n,c= .int .i64 n/\in64 n:=by
 cases h with | int k n hw=>exact ⟨n,rfl,adY hw⟩
theorem Y7 {c:IV} (h:ShOK (.flt .f64) c): ∃n,c= .flt .f64 n/\n < 2 ^ 64/\canF .f64 n=n:=by
 cases h with | flt k n hw hc=>simp only [Lit.wf,decide_eq_true_eq] at hw;exact ⟨n,rfl,hw,hc⟩
theorem adB (e:List IV) (h:Typed ahS e): ∃x,e=eMv x/\OKm x:=by
 obtain ⟨g,_,rfl,h0,h⟩:=h.cons_inv
 obtain ⟨c1,_,rfl,h1,h⟩:=h.cons_inv
 obtain ⟨c2,_,rfl,h2,h⟩:=h.cons_inv
 obtain ⟨c3,_,rfl,a,h⟩:=h.cons_inv
 obtain ⟨c4,_,rfl,b,h⟩:=h.cons_inv
 obtain ⟨c5,_,rfl,c,h⟩:=h.cons_inv
 cases h.nil_inv
 obtain ⟨i,rfl,w0⟩:=qO h0
 obtain ⟨j,rfl,w1⟩:=qO h1
 obtain ⟨k,rfl,w2⟩:=qO h2
 obtain ⟨l,rfl,w3⟩:=qO a
 cases b
 obtain ⟨m,rfl,d,f⟩:=Y7 c
 exact ⟨⟨_,_,_,_,_,_⟩,rfl,d,f,w3,w2⟩
theorem abG {cs:List IV} (h:Typed [.slc ahS] cs): ∃v:List Mv,cs=[bg v]/\ ∀m∈v,OKm m:=by
 obtain ⟨c,rfl,h1⟩:=h.one_inv
 obtain ⟨l,rfl,hl⟩:=h1.list_invP adB
 exact ⟨l,rfl,hl⟩
theorem OKl.fl {l:List Rw} (h:OKl l): ∀r∈l,r.rk < 2 ^ 64:= λr hr=>(h r hr).rk
end Go.AM
namespace Go.AM
def R3 (r:Rw):Bool:=WC r.ch r.par r.nm
def ZE (a b:Rw):Bool:=decide (a.ch < b.ch)
def mayR (l:List Rw):Bool:=decide (l.length<=2000)&&(l.all R3&&xY ZE l&& !l.any λr=>Bx l r.ch r.ch)
end Go.AM
