/- Rows, plainly: what the functions of a tree and their references do. -/
import Derived.Test.YtgoenohknokcmaaGreatMv
open Option renaming bind_some->ab,map_some->a5
open List renaming getElem?_eq_some_iff->ad,length_map->ao,mem_of_getElem?->aB,findIdx?_eq_some_iff_getElem->a1,mem_cons_of_mem->a2,mem_cons_self->a6,mem_cons->a7,length_cons->a8,mem_append->bb,map_cons->bd
set_option linter.unusedVariables false
set_option linter.unusedSimpArgs false
namespace Go.AM
structure Rw where
 ch:Int
 par:Int
 nm:ByteArray
 rk:Nat
 deriving Inhabited
def Y9 (r:Rw):List IV:=[.int .i64 r.ch,.int .i64 r.par,.str r.nm,.flt .f64 r.rk]
abbrev cQ (l:List Rw):IV:= .lst (l.map Y9)
theorem P9 {l:List Rw} {i:Nat} {x:Rw} (h:l[i]? =some x):i < l.length/\aE (cQ l) (.int .i64 (i:Int)) 4=some i/\eV (cQ l) i 0 4=some [.int .i64 x.ch,.int .i64 x.par,.str x.nm,.flt .f64 x.rk]/\cV (cQ l) i 0=some (.int .i64 x.ch)/\cV (cQ l) i 1=some (.int .i64 x.par)/\cV (cQ l) i 2=some (.str x.nm)/\cV (cQ l) i 3=some (.flt .f64 x.rk)/\bP l.length (.int .i64 (i:Int))=some i:=
 ⟨(ad.1 h).1,ea h rfl (by decide),qG h rfl,bX h,bX h,bX h,bX h,eb (ad.1 h).1⟩
theorem acz {l:List Rw} {i:Nat} {x:Rw} (h:l[i]? =some x) (r:Rw):pK (cQ l) i 0 [.int .i64 r.ch,.int .i64 r.par,.str r.nm,.flt .f64 r.rk]=some (cQ (l.set i r)):=by
 simp only [pK,List.getElem?_map,h,a5,ab,Y9,a8,List.length_nil]
 rw [if_pos (by decide)]
 simp only [cQ,List.map_set]
 rfl
def Ea (c:Int) (x:Rw):Bool:=decide (x.ch=c)
def atR (l:List Rw) (c:Int):Nat:=(l.findIdx? λx=>decide (c < x.ch)).getD l.length
def rY (l:List Rw) (c:Int):Option Rw:=l.find? (Ea c)
def tf (l:List Rw) (r:Rw):List Rw:=match l.findIdx? (Ea r.ch) with | some i=>l.set i r | none=>l.take (atR l r.ch)++[r]++l.drop (atR l r.ch)
theorem afh (l:List Rw) (c:Int):atR l c<=l.length:=by
 unfold atR
 cases h:l.findIdx? λx=>decide (c < x.ch) with
 | none=>simp
 | some i=>have:=(a1.1 h).1;simp;omega
def in64 (n:Int):Prop:= -(2 ^ 63)<=n/\n < 2 ^ 63
structure OKr (r:Rw):Prop where
 rk:r.rk < 2 ^ 64
 can:canF .f64 r.rk=r.rk
 ch:in64 r.ch
 par:in64 r.par
def OKl (l:List Rw):Prop:= ∀r∈l,OKr r
theorem QZ {n:Int} (h:in64 n):(Lit.int .i64 n).wf=true:=by
 have h1:IntKind.i64.min= -(2 ^ 63):=by rfl
 have h2:IntKind.i64.max=2 ^ 63 - 1:=by rfl
 simp only [Lit.wf,Bool.and_eq_true,decide_eq_true_eq]
 unfold in64 at h
 omega
theorem OKl.set {l:List Rw} {r:Rw} (h:OKl l) (hr:OKr r):OKl (tf l r):=by
 intro x a
 unfold tf at a
 split at a
 ·rcases List.mem_or_eq_of_mem_set a with a | rfl
  ·exact h x a
  ·exact hr
 ·rcases bb.1 a with a | a
  ·rcases bb.1 a with a | a
   ·exact h x (List.mem_of_mem_take a)
   ·simp at a;subst a;exact hr
  ·exact h x (List.mem_of_mem_drop a)
theorem Un (l:List Rw) (r:Rw):(tf l r).length<=l.length+1:=by
 unfold tf
 split
 ·simp
 ·have:=afh l r.ch
  simp;omega
theorem CG {C:IV->List Nat->List (List IV)->Option (List IV)} {b:IV} {p:Rw->Bool} {l:List Rw} (hl:l.length < 2 ^ 16) (c: ∀x∈l,C b [1] [Y9 x]=some [.bool (p x)]):
  bJ C (cQ l) b=some [.int .i64 (PK p l)]:=by
 unfold bJ
 simp only [aw,ab]
 rw [k9 (vs0:=[IV.int .i64 0]) (λi=>[IV.int .i64 (i:Int)]) p 1 (λi=>[IV.int .i64 (i:Int)]) 0 [] l rfl (by have:=aO;omega)]
 ·unfold PK
  cases l.findIdx? p<;>simp
 ·intro i x a
  have hi:i < l.length:=(ad.1 a).1
  have hc:=c x (aB a)
  unfold ja
  unfold Y9 at hc
  simp only [af,ai,ay,az,bG,bE,al,ao,Int.ofNat_lt,P9 a,decide_true,ah,ab,hc,dc,au (show i < 2 ^ 62 by omega),if_true]
  cases p x<;>rfl
 ·unfold ja
  simp
theorem Ph {l:List Rw} (hl:l.length < 2 ^ 16) (c:Int):oQ (cQ l) (.int .i64 c)=some [.int .i64 (PK (Ea c) l),.bool (decide (0<=PK (Ea c) l))]:=by
 unfold oQ
 rw [CG hl (p:=Ea c)]
 ·simp
 ·intro x _
  show lW (.int .i64 x.ch) (.int .i64 x.par) (.str x.nm) (.flt .f64 x.rk) (.ptr [.int .i64 c] 0)=_
  unfold lW
  simp [iI,Ea]
theorem P4 {l:List Rw} (hl:l.length < 2 ^ 16) {i:Nat} (hi:i<=l.length) (r:Rw):dy (cQ l) (.int .i64 (i:Int)) (.lst [[.int .i64 r.ch,.int .i64 r.par,.str r.nm,.flt .f64 r.rk]])=some [cQ (l.take i++[r]++l.drop i)]:=by
 unfold dy
 simp only [sI]
 rw [if_pos]
 ·simp [Y9]
 ·refine ⟨by omega,by simp;omega,by simp;omega,rfl⟩
theorem abc {l:List Rw} (hl:l.length < 2 ^ 16):gh (cQ l)=some [cQ l]:=by
 unfold gh
 simp only [tJ]
 rw [if_pos]
 refine ⟨by simp;omega,by simp [Y9,IV.scalar]⟩
theorem Vj {l:List Rw} (hl:l.length < 2 ^ 16) (r:Rw):s7 (cQ l) (.int .i64 r.ch) (.int .i64 r.par) (.str r.nm) (.flt .f64 r.rk)=some [cQ (tf l r)]:=by
 unfold s7 tf
 rw [abc hl]
 simp only [ab]
 rw [Ph hl]
 simp only [ab,ai,af,bj]
 cases h:l.findIdx? (Ea r.ch) with
 | some i=>
   obtain ⟨x,a,_⟩:=uT h
   rw [Ba h,if_pos (Int.natCast_nonneg _)]
   simp only [cr,ao,P9 a,ab,acz a]
 | none=>
   rw [Bd h,if_neg (by omega)]
   rw [CG hl (p:= λx=>decide (r.ch < x.ch))]
   ·simp only [ab,af,al,bj,atR]
    cases hh:l.findIdx? (λx=>decide (r.ch < x.ch)) with
    | none=>
      have:=P4 hl (Nat.le_refl _) r
      simp [Bd hh,this]
    | some i=>
      obtain ⟨hi,_⟩:=a1.1 hh
      have:=P4 hl (Nat.le_of_lt hi) r
      simp [Ba hh,this,show ¬((i:Int) < 0) by omega]
   ·intro x _
    show oV (.int .i64 x.ch) (.int .i64 x.par) (.str x.nm) (.flt .f64 x.rk) (.ptr [.int .i64 r.ch,.int .i64 r.par,.str r.nm,.flt .f64 r.rk] 0)=_
    unfold oV
    simp [iI,gr]
def DG (r:Rw):Int×Int×List UInt8×Nat:=(r.ch,r.par,r.nm.toList,bitsN r.rk)
def YD (a b:List Rw):Bool:=decide (a.map DG=b.map DG)
theorem Sd {a b:Rw} (h:a.rk < 2 ^ 64) (h':b.rk < 2 ^ 64):kn (.int .i64 a.ch) (.int .i64 a.par) (.str a.nm) (.flt .f64 a.rk) (.int .i64 b.ch) (.int .i64 b.par) (.str b.nm) (.flt .f64 b.rk)=some [.bool (decide (DG a=DG b))]:=by
 rw [Ni h h']
 simp [DG,Prod.mk.injEq]
theorem Nv {a b:List Rw} (j:a.length < 2 ^ 16) (d: ∀r∈a,r.rk < 2 ^ 64) (f: ∀r∈b,r.rk < 2 ^ 64):gN (cQ a) (cQ b)=some [.bool (YD a b)]:=by
 unfold gN YD
 simp only [aw,ab,dm,ao,bj]
 by_cases hlen:a.length=b.length
 ·rw [if_neg (by omega)]
  rw [D9 (vs0:=[.int .i64 0]) (λi=>[IV.int .i64 (i:Int)]) (λi x=>decide ((b[i]?).map DG≠some (DG x))) 1 [.bool false] 0 [] a rfl (by have:=aO;omega),any_keys hlen (b0:=b) (λi=>by rw [Nat.zero_add])]
  ·by_cases h:a.map DG=b.map DG<;>simp [h]
  ·intro i x g
   have hi:i < a.length:=(ad.1 g).1
   have c:b[i]? =some (b[i]'(by omega)):=List.getElem?_eq_getElem (by omega)
   generalize b[i]'(by omega)=y at c
   have hk:=Sd (d x (aB g)) (f y (aB c))
   unfold vL
   simp only [aw,ab,af,ai,ay,az,bG,bE,al,ao,Int.ofNat_lt,P9 g,P9 c,decide_true,ah,hk,aW,dc,au (show i < 2 ^ 62 by omega),c,a5,if_true]
   by_cases h:DG x=DG y
   ·simp [h]
   ·have: ¬DG y=DG x:= λe=>h e.symm
    simp [h,this]
  ·unfold vL
   simp
 ·rw [if_pos (by omega)]
  have: ¬a.map DG=b.map DG:= λh=>hlen (by have:=congrArg List.length h;simpa using this)
  simp [this]
theorem WJ (a:List Rw):YD a a=true:=by simp [YD]
end Go.AM
namespace Go.AM
theorem Qu {f:Int->Option Int}: ∀{n m:Nat} {b:Int},n<=m-> ∀x,x∈upto f n b->x∈upto f m b
 | 0,m,b,_,x,h=>by simp [upto] at h
 | n+1,m+1,b,hle,x,h=>by
   unfold upto at h ⊢
   split
   ·rename_i hb;rw [hb] at h;exact h
   ·rename_i y hb
    rw [hb] at h
    rcases a7.1 h with rfl | h
    ·exact a6
    ·exact a2 _ (Qu (by omega) x h)
def nodeAt (f:Int->Option Int):Nat->Int->Option Int
 | 0,b=>some b
 | n+1,b=>(f b).bind λy=>nodeAt f n y
theorem FN {f:Int->Option Int}: ∀{n:Nat} {b x:Int},x∈upto f n b↔ ∃k,k < n/\nodeAt f (k+1) b=some x
 | 0,b,x=>by simp [upto]
 | n+1,b,x=>by
   unfold upto
   cases hb:f b with
   | none=>
     simp only [List.not_mem_nil,false_iff,not_exists,not_and]
     intro k _ h
     simp [nodeAt,hb] at h
   | some y=>
     simp only [a7]
     rw [FN]
     constructor
     ·rintro (rfl | ⟨k,hk,h⟩)
      ·exact ⟨0,by omega,by simp [nodeAt,hb]⟩
      ·exact ⟨k+1,by omega,by rw [nodeAt,hb];exact h⟩
     ·rintro ⟨k,hk,h⟩
      rw [nodeAt,hb] at h
      cases k with
      | zero=>left;simpa [nodeAt] using h.symm
      | succ k=>right;exact ⟨k,by omega,h⟩
theorem gV {f:Int->Option Int}: ∀(j:Nat) {k:Nat} {b:Int},nodeAt f (j+k) b=(nodeAt f j b).bind (nodeAt f k)
 | 0,k,b=>by simp [nodeAt]
 | j+1,k,b=>by
   rw [show j+1+k=(j+k)+1 by omega,nodeAt,nodeAt]
   cases f b with
   | none=>rfl
   | some y=>simp only [ab];exact gV j
theorem Io {f:Int->Option Int} {n:Nat} {b x:Int} (h:nodeAt f n b=some x): ∀k,k<=n-> ∃y,nodeAt f k b=some y:=by
 intro k hk
 have:nodeAt f (k+(n - k)) b=some x:=by rw [show k+(n - k)=n by omega];exact h
 rw [gV] at this
 obtain ⟨y,h1,_⟩:=Option.bind_eq_some_iff.1 this
 exact ⟨y,h1⟩
theorem adO {K:List Int} (g:Nat->Int): ∀n,K.length < n->(∀i,i < n->g i∈K)-> ∃i j,i < j/\j < n/\g i=g j:=by
 induction K generalizing g with
 | nil=>intro n hn h;exact absurd (h 0 (by simpa using hn)) (by simp)
 | cons x K ih=>
   intro n hn h
   by_cases b: ∃i j,i < j/\j < n/\g i=g j
   ·exact b
   ·exfalso
    have: ∃i0,i0 < n/\(∀i,i < n->g i=x->i=i0):=by
     by_cases h0: ∃i,i < n/\g i=x
     ·obtain ⟨i0,h1,h2⟩:=h0
      refine ⟨i0,h1,λi hi he=> ?_⟩
      rcases Nat.lt_trichotomy i i0 with hl | hl | hl
      ·exact absurd ⟨i,i0,hl,h1,he.trans h2.symm⟩ b
      ·exact hl
      ·exact absurd ⟨i0,i,hl,hi,h2.trans he.symm⟩ b
     ·exact ⟨0,by simp at hn;omega,λi hi he=>absurd ⟨i,hi,he⟩ h0⟩
    obtain ⟨i0,h1,h2⟩:=this
    obtain ⟨i,j,d,e,c⟩:=ih (λi=>g (if i < i0 then i else i+1)) (n - 1) (by simp at hn;omega) (λi hi=>by
     have a:(if i < i0 then i else i+1) < n:=by split<;>omega
     rcases a7.1 (h _ a) with he | he
     ·have:=h2 _ a he
      split at this<;>omega
     ·exact he)
    refine b ⟨if i < i0 then i else i+1,if j < i0 then j else j+1,?_,?_,c⟩
    ·split<;>split<;>omega
    ·split<;>omega
theorem Ed {f:Int->Option Int} {K:List Int} (g: ∀x,(f x).isSome=true->x∈K) {b x:Int}: ∀n,nodeAt f (n+1) b=some x-> ∃k,k < K.length/\nodeAt f (k+1) b=some x:=by
 intro n
 induction n using Nat.strongRecOn with
 | ind n ih=>
   intro h
   by_cases hn:n < K.length
   ·exact ⟨n,hn,h⟩
   ·have d: ∀i,i < n+1-> ∃y,nodeAt f i b=some y/\y∈K:=by
     intro i hi
     obtain ⟨y,a⟩:=Io h i (by omega)
     obtain ⟨z,hz⟩:=Io h (i+1) (by omega)
     rw [gV,a] at hz
     simp only [ab,nodeAt] at hz
     refine ⟨y,a,g y ?_⟩
     cases hf:f y with
     | none=>rw [hf] at hz;simp at hz
     | some _=>rfl
    obtain ⟨i,j,h1,h2,c⟩:=adO (K:=K) (λi=>(nodeAt f i b).getD 0) (n+1) (by omega) (λi hi=>by
     obtain ⟨y,a,hk⟩:=d i hi
     rw [a];exact hk)
    obtain ⟨l,hi,_⟩:=d i (by omega)
    obtain ⟨m,hj,_⟩:=d j h2
    rw [hi,hj] at c
    simp only [Option.getD_some] at c
    subst c
    have:nodeAt f (i+(n - j)+1) b=some x:=by
     rw [show i+(n - j)+1=i+(n+1 - j) by omega,gV,hi]
     have e:nodeAt f (j+(n+1 - j)) b=some x:=by rw [show j+(n+1 - j)=n+1 by omega];exact h
     rw [gV,hj] at e
     exact e
    exact ih (i+(n - j)) (by omega) this
theorem Wf {f:Int->Option Int} {K:List Int} (a: ∀x,(f x).isSome=true->x∈K) {b:Int} {n:Nat} (hn:K.length<=n) (x:Int):x∈upto f n b↔x∈upto f K.length b:=by
 constructor
 ·intro h
  obtain ⟨k,_,h1⟩:=FN.1 h
  obtain ⟨j,hj,h2⟩:=Ed a k h1
  exact FN.2 ⟨j,hj,h2⟩
 ·exact Qu hn x
def Nr (r:Rw):Int×Int:=(r.ch,r.par)
def VK (l:List Rw):Int->Option Int:=oC (l.map Nr)
def z6 (l:List Rw) (a b:Int):Bool:=(upto (VK l) l.length b).contains a
theorem Nf (l:List Rw) (c:Int):VK l c=(rY l c).map (·.par):=by
 unfold VK oC rY
 induction l with
 | nil=>rfl
 | cons x l ih=>
   simp only [bd,List.find?_cons]
   have e:((Nr x).1==c)=Ea c x:=by unfold Nr Ea;by_cases h:x.ch=c<;>simp [h]
   rw [e]
   cases Ea c x with
   | true=>rfl
   | false=>exact ih
theorem contains_iff {l:List Int} {x:Int}:l.contains x=true↔x∈l:=by simp
theorem aar {r:Rw} (h:OKr r):Ji (Y9 r)=some (Nr r):=by
 unfold Ji Y9
 simp only
 rw [if_pos ⟨QZ h.ch,QZ h.par⟩]
 rfl
theorem Gn: ∀{l:List Rw},OKl l->(l.map Y9).mapM Ji=some (l.map Nr)
 | [],_=>rfl
 | r::l,h=>by
   rw [bd,List.mapM_cons,aar (h r a6),Gn λx a=>h x (a2 _ a)]
   rfl
theorem Hm (l:List Rw) (a b:Int):(upto (oC (l.map Nr)) (dD (l.map Nr)).length b).contains a=z6 l a b:=by
 unfold z6 VK
 have h:=Wf (f:=oC (l.map Nr)) (K:=dD (l.map Nr)) (λx c=>(ui _ x).2 c) (b:=b) (n:=l.length) (by have:=Fh (l.map Nr);simpa using this) a
 cases h1:(upto (oC (l.map Nr)) (dD (l.map Nr)).length b).contains a<;>cases h2:(upto (oC (l.map Nr)) l.length b).contains a<;>simp_all
theorem NJ {l:List Rw} (hl:l.length < 2 ^ 16) (c:OKl l) (a:Int) {b:Int} (hb:in64 b):sB (cQ l) (.int .i64 a) (.int .i64 b)=some [.bool (z6 l a b)]:=by
 unfold sB Lc
 simp only [ao]
 rw [if_pos ⟨by omega,QZ hb⟩,Gn c,a5,Hm]
def Oj (l:List Rw) (m:Mv):Bool:=decide (m.ch=0)||decide (m.ch=m.par)||z6 l m.ch m.par
structure OKm (m:Mv):Prop where
 rk:m.rk < 2 ^ 64
 can:canF .f64 m.rk=m.rk
 ch:in64 m.ch
 par:in64 m.par
def rowOf (m:Mv):Rw:=⟨m.ch,m.par,m.nm,m.rk⟩
theorem OKm.row {m:Mv} (h:OKm m):OKr (rowOf m):=⟨h.rk,h.can,h.ch,h.par⟩
def Sm (l:List Rw) (m:Mv):List Rw:=if Oj l m=true then l else tf l (rowOf m)
theorem OKl.Sm {l:List Rw} {m:Mv} (h:OKl l) (hm:OKm m):OKl (Sm l m):=by
 unfold AM.Sm
 split
 ·exact h
 ·exact h.set hm.row
theorem xB (l:List Rw) (m:Mv):(Sm l m).length<=l.length+1:=by
 unfold Sm
 split
 ·omega
 ·exact Un _ _
theorem KK {l:List Rw} (hl:l.length < 2 ^ 16) (a:OKl l) {m:Mv} (hm:OKm m):m5 (cQ l) (.int .i64 m.c) (.int .i64 m.r) (.int .i64 m.par) (.int .i64 m.ch) (.str m.nm) (.flt .f64 m.rk)=some [.bool (Oj l m)]:=by
 unfold m5 Oj
 simp only [dI,ab,bj]
 by_cases h1:m.ch=0
 ·simp [h1]
 ·by_cases h2:m.ch=m.par
  ·simp [h1,h2]
  ·simp only [h1,h2,if_false,NJ hl a m.ch hm.par,ab,af,dR,du,a5,decide_false,Bool.false_or]
theorem Wp {l:List Rw} (hl:l.length < 2 ^ 16) (a:OKl l) {m:Mv} (hm:OKm m):wW (cQ l) (.int .i64 m.c) (.int .i64 m.r) (.int .i64 m.par) (.int .i64 m.ch) (.str m.nm) (.flt .f64 m.rk)=some [cQ (Sm l m),.bool (!Oj l m)]:=by
 unfold wW Sm
 simp only [KK hl a hm,ab,af,dc]
 cases h:Oj l m with
 | true=>simp
 | false=>
   have:=Vj hl (rowOf m)
   simp only [rowOf] at this
   simp only [Bool.false_eq_true,if_false,EZ m,ab,af,ai,ay,az,this,Bool.not_false]
   rfl
def allV (l:List Rw) (ms:List Mv):List Rw:=ms.foldl Sm l
theorem OKl.allV: ∀{ms:List Mv} {l:List Rw},OKl l->(∀m∈ms,OKm m)->OKl (allV l ms)
 | [],l,h,_=>h
 | m::ms,l,h,hm=>OKl.allV (ms:=ms) (h.Sm (hm m a6)) λx a=>hm x (a2 _ a)
theorem uI: ∀(ms:List Mv) (l:List Rw),(allV l ms).length<=l.length+ms.length
 | [],l=>Nat.le_refl _
 | m::ms,l=>by
   have h1:=uI ms (Sm l m)
   have h2:=xB l m
   show (allV (Sm l m) ms).length<=_
   simp only [a8]
   omega
theorem IB (l:List Rw) (a b:List Mv):allV l (a++b)=allV (allV l a) b:=List.foldl_append
theorem Bj {l:List Rw} {ms:List Mv} (hl:l.length+ms.length < 2 ^ 16) (e:OKl l) (hm: ∀m∈ms,OKm m):fZ (cQ l) (aZ ms)=some [cQ (allV l ms)]:=by
 unfold fZ
 simp only [aw,ab]
 rw [kC (vs0:=[cQ l,.int .i64 0]) (λi (s:List Rw)=>[cQ s,.int .i64 (i:Int)]) Sm 0 (λs=>[cQ s]) (λi s=>OKl s/\s.length<=l.length+i) ms l rfl (by have:=aO;omega) ⟨e,by omega⟩]
 ·simp [allV]
 ·intro i s x b c
  have hi:i < ms.length:=(ad.1 b).1
  have a:=hm x (aB b)
  refine ⟨⟨c.1.Sm a,by have:=xB s x;omega⟩,?_⟩
  unfold Aj
  have d:=Wp (l:=s) (by omega) c.1 a
  simp only [af,ai,ay,az,bG,bE,al,ao,Int.ofNat_lt,hi,AY b,decide_true,ah,ab,d,au (show i < 2 ^ 62 by omega)]
 ·intro s _
  unfold Aj
  simp
end Go.AM
namespace Go.AM
structure Stp where
 mv:Mv
 moved:Bool
 had:Bool
 old:Rw
structure OKs (s:Stp):Prop where
 mv:OKm s.mv
 old:OKr s.old
structure KeyO where
 moved:Bool
 had:Bool
 old:Int×Int×List UInt8×Nat
 deriving DecidableEq
structure KeyS where
 m:Key
 o:KeyO
 deriving DecidableEq
end Go.AM
namespace Go.AM
theorem adv {k:Int} (h:(Lit.int .i64 k).wf=true):in64 k:=by
 have h1:IntKind.i64.min= -(2 ^ 63):=by rfl
 have h2:IntKind.i64.max=2 ^ 63 - 1:=by rfl
 simp only [Lit.wf,Bool.and_eq_true,decide_eq_true_eq] at h
 unfold in64
 omega
theorem Bz {c:IV} (h:ShOK (.int .i64) c): ∃n,c= .int .i64 n/\in64 n:=by
 cases h with | int k n hw=>exact ⟨n,rfl,adv hw⟩
theorem acU {c:IV} (h:ShOK (.flt .f64) c): ∃n,c= .flt .f64 n/\n < 2 ^ 64/\canF .f64 n=n:=by
 cases h with | flt k n hw hc=>simp only [Lit.wf,decide_eq_true_eq] at hw;exact ⟨n,rfl,hw,hc⟩
theorem OKl.fl {l:List Rw} (h:OKl l): ∀r∈l,r.rk < 2 ^ 64:= λr hr=>(h r hr).rk
end Go.AM
namespace Go.AM
def S0 (r:Rw):Bool:=V5 r.ch r.par r.nm
def YX (a b:Rw):Bool:=decide (a.ch < b.ch)
def mayR (l:List Rw):Bool:=decide (l.length<=2000)&&(l.all S0&&xb YX l&& !l.any λr=>z6 l r.ch r.ch)
end Go.AM
