/- Rows, plainly: what the functions of a tree and their references do. -/
import Derived.Test.YtgoenohknokcmaaGreatMv
open Option renaming bind_some->ab,map_some->a5
open List renaming getElem?_eq_some_iff->ad,length_map->ao,mem_of_getElem?->aB,findIdx?_eq_some_iff_getElem->a1,mem_cons_of_mem->a2,mem_cons_self->a6,mem_cons->a7,length_cons->a8,mem_append->bb,map_cons->bd
set_option linter.unusedVariables false
set_option linter.unusedSimpArgs false
namespace Go.AM
structure Rw where
 ch:Int
 par:Int
 nm:ByteArray
 rk:Nat
 deriving Inhabited
def Y6 (r:Rw):List IV:=[.int .i64 r.ch,.int .i64 r.par,.str r.nm,.flt .f64 r.rk]
abbrev cJ (l:List Rw):IV:= .lst (l.map Y6)
theorem QR {l:List Rw} {i:Nat} {x:Rw} (h:l[i]? =some x):i < l.length/\aP (cJ l) (.int .i64 (i:Int)) 4=some i/\ff (cJ l) i 0 4=some [.int .i64 x.ch,.int .i64 x.par,.str x.nm,.flt .f64 x.rk]/\dV (cJ l) i 0=some (.int .i64 x.ch)/\dV (cJ l) i 1=some (.int .i64 x.par)/\dV (cJ l) i 2=some (.str x.nm)/\dV (cJ l) i 3=some (.flt .f64 x.rk)/\cx l.length (.int .i64 (i:Int))=some i:=
 ⟨(ad.1 h).1,ee h rfl (by decide),qM h rfl,cg h,cg h,cg h,cg h,fi (ad.1 h).1⟩
theorem acN {l:List Rw} {i:Nat} {x:Rw} (h:l[i]? =some x) (r:Rw):rI (cJ l) i 0 [.int .i64 r.ch,.int .i64 r.par,.str r.nm,.flt .f64 r.rk]=some (cJ (l.set i r)):=by
 simp only [rI,List.getElem?_map,h,a5,ab,Y6,a8,List.length_nil]
 rw [if_pos (by decide)]
 simp only [cJ,List.map_set]
 rfl
def El (c:Int) (x:Rw):Bool:=decide (x.ch=c)
def atR (l:List Rw) (c:Int):Nat:=(l.findIdx? λx=>decide (c < x.ch)).getD l.length
def sa (l:List Rw) (c:Int):Option Rw:=l.find? (El c)
def tJ (l:List Rw) (r:Rw):List Rw:=match l.findIdx? (El r.ch) with | some i=>l.set i r | none=>l.take (atR l r.ch)++[r]++l.drop (atR l r.ch)
theorem aem (l:List Rw) (c:Int):atR l c<=l.length:=by
 unfold atR
 cases h:l.findIdx? λx=>decide (c < x.ch) with
 | none=>simp
 | some i=>have:=(a1.1 h).1;simp;omega
def in64 (n:Int):Prop:= -(2 ^ 63)<=n/\n < 2 ^ 63
structure OKr (r:Rw):Prop where
 rk:r.rk < 2 ^ 64
 can:canF .f64 r.rk=r.rk
 ch:in64 r.ch
 par:in64 r.par
def OKl (l:List Rw):Prop:= ∀r∈l,OKr r
theorem So {n:Int} (h:in64 n):(Lit.int .i64 n).wf=true:=by
 have h1:IntKind.i64.min= -(2 ^ 63):=by rfl
 have h2:IntKind.i64.max=2 ^ 63 - 1:=by rfl
 simp only [Lit.wf,Bool.and_eq_true,decide_eq_true_eq]
 unfold in64 at h
 omega
theorem OKl.set {l:List Rw} {r:Rw} (h:OKl l) (hr:OKr r):OKl (tJ l r):=by
 intro x a
 unfold tJ at a
 split at a
 ·rcases List.mem_or_eq_of_mem_set a with a | rfl
  ·exact h x a
  ·exact hr
 ·rcases bb.1 a with a | a
  ·rcases bb.1 a with a | a
   ·exact h x (List.mem_of_mem_take a)
   ·simp at a;subst a;exact hr
  ·exact h x (List.mem_of_mem_drop a)
theorem V8 (l:List Rw) (r:Rw):(tJ l r).length<=l.length+1:=by
 unfold tJ
 split
 ·simp
 ·have:=aem l r.ch
  simp;omega
theorem Cw {C:IV->List Nat->List (List IV)->Option (List IV)} {b:IV} {p:Rw->Bool} {l:List Rw} (hl:l.length < 2 ^ 16) (c: ∀x∈l,C b [1] [Y6 x]=some [.bool (p x)]):
  bF C (cJ l) b=some [.int .i64 (Qx p l)]:=by
 unfold bF
 simp only [aw,ab]
 rw [lI (vs0:=[IV.int .i64 0]) (λi=>[IV.int .i64 (i:Int)]) p 1 (λi=>[IV.int .i64 (i:Int)]) 0 [] l rfl (by have:=aJ;omega)]
 ·unfold Qx
  cases l.findIdx? p<;>simp
 ·intro i x a
  have hi:i < l.length:=(ad.1 a).1
  have hc:=c x (aB a)
  unfold iX
  unfold Y6 at hc
  simp only [af,ai,ay,aH,bW,bV,al,ao,Int.ofNat_lt,QR a,decide_true,ah,ab,hc,db,au (show i < 2 ^ 62 by omega),if_true]
  cases p x<;>rfl
 ·unfold iX
  simp
theorem O2 {l:List Rw} (hl:l.length < 2 ^ 16) (c:Int):o5 (cJ l) (.int .i64 c)=some [.int .i64 (Qx (El c) l),.bool (decide (0<=Qx (El c) l))]:=by
 unfold o5
 rw [Cw hl (p:=El c)]
 ·simp
 ·intro x _
  show lk (.int .i64 x.ch) (.int .i64 x.par) (.str x.nm) (.flt .f64 x.rk) (.ptr [.int .i64 c] 0)=_
  unfold lk
  simp [iM,El]
theorem PY {l:List Rw} (hl:l.length < 2 ^ 16) {i:Nat} (hi:i<=l.length) (r:Rw):dC (cJ l) (.int .i64 (i:Int)) (.lst [[.int .i64 r.ch,.int .i64 r.par,.str r.nm,.flt .f64 r.rk]])=some [cJ (l.take i++[r]++l.drop i)]:=by
 unfold dC
 simp only [sK]
 rw [if_pos]
 ·simp [Y6]
 ·refine ⟨by omega,by simp;omega,by simp;omega,rfl⟩
theorem abB {l:List Rw} (hl:l.length < 2 ^ 16):gg (cJ l)=some [cJ l]:=by
 unfold gg
 simp only [tC]
 rw [if_pos]
 refine ⟨by simp;omega,by simp [Y6,IV.scalar]⟩
theorem TU {l:List Rw} (hl:l.length < 2 ^ 16) (r:Rw):sX (cJ l) (.int .i64 r.ch) (.int .i64 r.par) (.str r.nm) (.flt .f64 r.rk)=some [cJ (tJ l r)]:=by
 unfold sX tJ
 rw [abB hl]
 simp only [ab]
 rw [O2 hl]
 simp only [ab,ai,af,bj]
 cases h:l.findIdx? (El r.ch) with
 | some i=>
   obtain ⟨x,a,_⟩:=vj h
   rw [zO h,if_pos (Int.natCast_nonneg _)]
   simp only [cC,ao,QR a,ab,acN a]
 | none=>
   rw [Ao h,if_neg (by omega)]
   rw [Cw hl (p:= λx=>decide (r.ch < x.ch))]
   ·simp only [ab,af,al,bj,atR]
    cases hh:l.findIdx? (λx=>decide (r.ch < x.ch)) with
    | none=>
      have:=PY hl (Nat.le_refl _) r
      simp [Ao hh,this]
    | some i=>
      obtain ⟨hi,_⟩:=a1.1 hh
      have:=PY hl (Nat.le_of_lt hi) r
      simp [zO hh,this,show ¬((i:Int) < 0) by omega]
   ·intro x _
    show pD (.int .i64 x.ch) (.int .i64 x.par) (.str x.nm) (.flt .f64 x.rk) (.ptr [.int .i64 r.ch,.int .i64 r.par,.str r.nm,.flt .f64 r.rk] 0)=_
    unfold pD
    simp [iM,gx]
def Ec (r:Rw):Int×Int×List UInt8×Nat:=(r.ch,r.par,r.nm.toList,bitsN r.rk)
def Yy (a b:List Rw):Bool:=decide (a.map Ec=b.map Ec)
theorem SG {a b:Rw} (h:a.rk < 2 ^ 64) (h':b.rk < 2 ^ 64):kC (.int .i64 a.ch) (.int .i64 a.par) (.str a.nm) (.flt .f64 a.rk) (.int .i64 b.ch) (.int .i64 b.par) (.str b.nm) (.flt .f64 b.rk)=some [.bool (decide (Ec a=Ec b))]:=by
 rw [Mp h h']
 simp [Ec,Prod.mk.injEq]
theorem CE {a b:List Rw} (j:a.length < 2 ^ 16) (d: ∀r∈a,r.rk < 2 ^ 64) (f: ∀r∈b,r.rk < 2 ^ 64):mJ (cJ a) (cJ b)=some [.bool (Yy a b)]:=by
 unfold mJ Yy
 simp only [aw,ab,dv,ao,bj]
 by_cases hlen:a.length=b.length
 ·rw [if_neg (by omega)]
  rw [D7 (vs0:=[.int .i64 0]) (λi=>[IV.int .i64 (i:Int)]) (λi x=>decide ((b[i]?).map Ec≠some (Ec x))) 1 [.bool false] 0 [] a rfl (by have:=aJ;omega),any_keys hlen (b0:=b) (λi=>by rw [Nat.zero_add])]
  ·by_cases h:a.map Ec=b.map Ec<;>simp [h]
  ·intro i x g
   have hi:i < a.length:=(ad.1 g).1
   have c:b[i]? =some (b[i]'(by omega)):=List.getElem?_eq_getElem (by omega)
   generalize b[i]'(by omega)=y at c
   have hk:=SG (d x (aB g)) (f y (aB c))
   unfold vU
   simp only [aw,ab,af,ai,ay,aH,bW,bV,al,ao,Int.ofNat_lt,QR g,QR c,decide_true,ah,hk,aZ,db,au (show i < 2 ^ 62 by omega),c,a5,if_true]
   by_cases h:Ec x=Ec y
   ·simp [h]
   ·have: ¬Ec y=Ec x:= λe=>h e.symm
    simp [h,this]
  ·unfold vU
   simp
 ·rw [if_pos (by omega)]
  have: ¬a.map Ec=b.map Ec:= λh=>hlen (by have:=congrArg List.length h;simpa using this)
  simp [this]
theorem MC (a:List Rw):Yy a a=true:=by simp [Yy]
end Go.AM
namespace Go.AM
theorem Qk {f:Int->Option Int}: ∀{n m:Nat} {b:Int},n<=m-> ∀x,x∈upto f n b->x∈upto f m b
 | 0,m,b,_,x,h=>by simp [upto] at h
 | n+1,m+1,b,hle,x,h=>by
   unfold upto at h ⊢
   split
   ·rename_i hb;rw [hb] at h;exact h
   ·rename_i y hb
    rw [hb] at h
    rcases a7.1 h with rfl | h
    ·exact a6
    ·exact a2 _ (Qk (by omega) x h)
def nodeAt (f:Int->Option Int):Nat->Int->Option Int
 | 0,b=>some b
 | n+1,b=>(f b).bind λy=>nodeAt f n y
theorem FM {f:Int->Option Int}: ∀{n:Nat} {b x:Int},x∈upto f n b↔ ∃k,k < n/\nodeAt f (k+1) b=some x
 | 0,b,x=>by simp [upto]
 | n+1,b,x=>by
   unfold upto
   cases hb:f b with
   | none=>
     simp only [List.not_mem_nil,false_iff,not_exists,not_and]
     intro k _ h
     simp [nodeAt,hb] at h
   | some y=>
     simp only [a7]
     rw [FM]
     constructor
     ·rintro (rfl | ⟨k,hk,h⟩)
      ·exact ⟨0,by omega,by simp [nodeAt,hb]⟩
      ·exact ⟨k+1,by omega,by rw [nodeAt,hb];exact h⟩
     ·rintro ⟨k,hk,h⟩
      rw [nodeAt,hb] at h
      cases k with
      | zero=>left;simpa [nodeAt] using h.symm
      | succ k=>right;exact ⟨k,by omega,h⟩
theorem ir {f:Int->Option Int}: ∀(j:Nat) {k:Nat} {b:Int},nodeAt f (j+k) b=(nodeAt f j b).bind (nodeAt f k)
 | 0,k,b=>by simp [nodeAt]
 | j+1,k,b=>by
   rw [show j+1+k=(j+k)+1 by omega,nodeAt,nodeAt]
   cases f b with
   | none=>rfl
   | some y=>simp only [ab];exact ir j
theorem IE {f:Int->Option Int} {n:Nat} {b x:Int} (h:nodeAt f n b=some x): ∀k,k<=n-> ∃y,nodeAt f k b=some y:=by
 intro k hk
 have:nodeAt f (k+(n - k)) b=some x:=by rw [show k+(n - k)=n by omega];exact h
 rw [ir] at this
 obtain ⟨y,h1,_⟩:=Option.bind_eq_some_iff.1 this
 exact ⟨y,h1⟩
theorem aeP {K:List Int} (g:Nat->Int): ∀n,K.length < n->(∀i,i < n->g i∈K)-> ∃i j,i < j/\j < n/\g i=g j:=by
 induction K generalizing g with
 | nil=>intro n hn h;exact absurd (h 0 (by simpa using hn)) (by simp)
 | cons x K ih=>
   intro n hn h
   by_cases b: ∃i j,i < j/\j < n/\g i=g j
   ·exact b
   ·exfalso
    have: ∃i0,i0 < n/\(∀i,i < n->g i=x->i=i0):=by
     by_cases h0: ∃i,i < n/\g i=x
     ·obtain ⟨i0,h1,h2⟩:=h0
      refine ⟨i0,h1,λi hi he=> ?_⟩
      rcases Nat.lt_trichotomy i i0 with hl | hl | hl
      ·exact absurd ⟨i,i0,hl,h1,he.trans h2.symm⟩ b
      ·exact hl
      ·exact absurd ⟨i0,i,hl,hi,h2.trans he.symm⟩ b
     ·exact ⟨0,by simp at hn;omega,λi hi he=>absurd ⟨i,hi,he⟩ h0⟩
    obtain ⟨i0,h1,h2⟩:=this
    obtain ⟨i,j,d,e,c⟩:=ih (λi=>g (if i < i0 then i else i+1)) (n - 1) (by simp at hn;omega) (λi hi=>by
     have a:(if i < i0 then i else i+1) < n:=by split<;>omega
     rcases a7.1 (h _ a) with he | he
     ·have:=h2 _ a he
      split at this<;>omega
     ·exact he)
    refine b ⟨if i < i0 then i else i+1,if j < i0 then j else j+1,?_,?_,c⟩
    ·split<;>split<;>omega
    ·split<;>omega
theorem Fu {f:Int->Option Int} {K:List Int} (g: ∀x,(f x).isSome=true->x∈K) {b x:Int}: ∀n,nodeAt f (n+1) b=some x-> ∃k,k < K.length/\nodeAt f (k+1) b=some x:=by
 intro n
 induction n using Nat.strongRecOn with
 | ind n ih=>
   intro h
   by_cases hn:n < K.length
   ·exact ⟨n,hn,h⟩
   ·have d: ∀i,i < n+1-> ∃y,nodeAt f i b=some y/\y∈K:=by
     intro i hi
     obtain ⟨y,a⟩:=IE h i (by omega)
     obtain ⟨z,hz⟩:=IE h (i+1) (by omega)
     rw [ir,a] at hz
     simp only [ab,nodeAt] at hz
     refine ⟨y,a,g y ?_⟩
     cases hf:f y with
     | none=>rw [hf] at hz;simp at hz
     | some _=>rfl
    obtain ⟨i,j,h1,h2,c⟩:=aeP (K:=K) (λi=>(nodeAt f i b).getD 0) (n+1) (by omega) (λi hi=>by
     obtain ⟨y,a,hk⟩:=d i hi
     rw [a];exact hk)
    obtain ⟨l,hi,_⟩:=d i (by omega)
    obtain ⟨m,hj,_⟩:=d j h2
    rw [hi,hj] at c
    simp only [Option.getD_some] at c
    subst c
    have:nodeAt f (i+(n - j)+1) b=some x:=by
     rw [show i+(n - j)+1=i+(n+1 - j) by omega,ir,hi]
     have e:nodeAt f (j+(n+1 - j)) b=some x:=by rw [show j+(n+1 - j)=n+1 by omega];exact h
     rw [ir,hj] at e
     exact e
    exact ih (i+(n - j)) (by omega) this
theorem Uo {f:Int->Option Int} {K:List Int} (a: ∀x,(f x).isSome=true->x∈K) {b:Int} {n:Nat} (hn:K.length<=n) (x:Int):x∈upto f n b↔x∈upto f K.length b:=by
 constructor
 ·intro h
  obtain ⟨k,_,h1⟩:=FM.1 h
  obtain ⟨j,hj,h2⟩:=Fu a k h1
  exact FM.2 ⟨j,hj,h2⟩
 ·exact Qk hn x
def ND (r:Rw):Int×Int:=(r.ch,r.par)
def UR (l:List Rw):Int->Option Int:=oJ (l.map ND)
def Ak (l:List Rw) (a b:Int):Bool:=(upto (UR l) l.length b).contains a
theorem Ml (l:List Rw) (c:Int):UR l c=(sa l c).map (·.par):=by
 unfold UR oJ sa
 induction l with
 | nil=>rfl
 | cons x l ih=>
   simp only [bd,List.find?_cons]
   have e:((ND x).1==c)=El c x:=by unfold ND El;by_cases h:x.ch=c<;>simp [h]
   rw [e]
   cases El c x with
   | true=>rfl
   | false=>exact ih
theorem contains_iff {l:List Int} {x:Int}:l.contains x=true↔x∈l:=by simp
theorem aca {r:Rw} (h:OKr r):JP (Y6 r)=some (ND r):=by
 unfold JP Y6
 simp only
 rw [if_pos ⟨So h.ch,So h.par⟩]
 rfl
theorem GM: ∀{l:List Rw},OKl l->(l.map Y6).mapM JP=some (l.map ND)
 | [],_=>rfl
 | r::l,h=>by
   rw [bd,List.mapM_cons,aca (h r a6),GM λx a=>h x (a2 _ a)]
   rfl
theorem GJ (l:List Rw) (a b:Int):(upto (oJ (l.map ND)) (dJ (l.map ND)).length b).contains a=Ak l a b:=by
 unfold Ak UR
 have h:=Uo (f:=oJ (l.map ND)) (K:=dJ (l.map ND)) (λx c=>(uk _ x).2 c) (b:=b) (n:=l.length) (by have:=F7 (l.map ND);simpa using this) a
 cases h1:(upto (oJ (l.map ND)) (dJ (l.map ND)).length b).contains a<;>cases h2:(upto (oJ (l.map ND)) l.length b).contains a<;>simp_all
theorem NT {l:List Rw} (hl:l.length < 2 ^ 16) (c:OKl l) (a:Int) {b:Int} (hb:in64 b):sD (cJ l) (.int .i64 a) (.int .i64 b)=some [.bool (Ak l a b)]:=by
 unfold sD Kx
 simp only [ao]
 rw [if_pos ⟨by omega,So hb⟩,GM c,a5,GJ]
def NL (l:List Rw) (m:Mv):Bool:=decide (m.ch=0)||decide (m.ch=m.par)||Ak l m.ch m.par
structure OKm (m:Mv):Prop where
 rk:m.rk < 2 ^ 64
 can:canF .f64 m.rk=m.rk
 ch:in64 m.ch
 par:in64 m.par
def rowOf (m:Mv):Rw:=⟨m.ch,m.par,m.nm,m.rk⟩
theorem OKm.row {m:Mv} (h:OKm m):OKr (rowOf m):=⟨h.rk,h.can,h.ch,h.par⟩
def QW (l:List Rw) (m:Mv):List Rw:=if NL l m=true then l else tJ l (rowOf m)
theorem OKl.QW {l:List Rw} {m:Mv} (h:OKl l) (hm:OKm m):OKl (QW l m):=by
 unfold AM.QW
 split
 ·exact h
 ·exact h.set hm.row
theorem yn (l:List Rw) (m:Mv):(QW l m).length<=l.length+1:=by
 unfold QW
 split
 ·omega
 ·exact V8 _ _
theorem LY {l:List Rw} (hl:l.length < 2 ^ 16) (a:OKl l) {m:Mv} (hm:OKm m):nD (cJ l) (.int .i64 m.c) (.int .i64 m.r) (.int .i64 m.par) (.int .i64 m.ch) (.str m.nm) (.flt .f64 m.rk)=some [.bool (NL l m)]:=by
 unfold nD NL
 simp only [dc,ab,bj]
 by_cases h1:m.ch=0
 ·simp [h1]
 ·by_cases h2:m.ch=m.par
  ·simp [h1,h2]
  ·simp only [h1,h2,if_false,NT hl a m.ch hm.par,ab,af,dQ,dm,a5,decide_false,Bool.false_or]
theorem W4 {l:List Rw} (hl:l.length < 2 ^ 16) (a:OKl l) {m:Mv} (hm:OKm m):wA (cJ l) (.int .i64 m.c) (.int .i64 m.r) (.int .i64 m.par) (.int .i64 m.ch) (.str m.nm) (.flt .f64 m.rk)=some [cJ (QW l m),.bool (!NL l m)]:=by
 unfold wA QW
 simp only [LY hl a hm,ab,af,db]
 cases h:NL l m with
 | true=>simp
 | false=>
   have:=TU hl (rowOf m)
   simp only [rowOf] at this
   simp only [Bool.false_eq_true,if_false,E0 m,ab,af,ai,ay,aH,this,Bool.not_false]
   rfl
def allV (l:List Rw) (ms:List Mv):List Rw:=ms.foldl QW l
theorem OKl.allV: ∀{ms:List Mv} {l:List Rw},OKl l->(∀m∈ms,OKm m)->OKl (allV l ms)
 | [],l,h,_=>h
 | m::ms,l,h,hm=>OKl.allV (ms:=ms) (h.QW (hm m a6)) λx a=>hm x (a2 _ a)
theorem qV: ∀(ms:List Mv) (l:List Rw),(allV l ms).length<=l.length+ms.length
 | [],l=>Nat.le_refl _
 | m::ms,l=>by
   have h1:=qV ms (QW l m)
   have h2:=yn l m
   show (allV (QW l m) ms).length<=_
   simp only [a8]
   omega
theorem A6 {l:List Rw} {ms:List Mv} (hl:l.length+ms.length < 2 ^ 16) (e:OKl l) (hm: ∀m∈ms,OKm m):lj (cJ l) (aI ms)=some [cJ (allV l ms)]:=by
 unfold lj
 simp only [aw,ab]
 rw [kE (vs0:=[cJ l,.int .i64 0]) (λi (s:List Rw)=>[cJ s,.int .i64 (i:Int)]) QW 0 (λs=>[cJ s]) (λi s=>OKl s/\s.length<=l.length+i) ms l rfl (by have:=aJ;omega) ⟨e,by omega⟩]
 ·simp [allV]
 ·intro i s x b c
  have hi:i < ms.length:=(ad.1 b).1
  have a:=hm x (aB b)
  refine ⟨⟨c.1.QW a,by have:=yn s x;omega⟩,?_⟩
  unfold A9
  have d:=W4 (l:=s) (by omega) c.1 a
  simp only [af,ai,ay,aH,bW,bV,al,ao,Int.ofNat_lt,hi,zH b,decide_true,ah,ab,d,au (show i < 2 ^ 62 by omega)]
 ·intro s _
  unfold A9
  simp
end Go.AM
namespace Go.AM
structure Stp where
 mv:Mv
 moved:Bool
 had:Bool
 old:Rw
structure OKs (s:Stp):Prop where
 mv:OKm s.mv
 old:OKr s.old
structure KeyO where
 moved:Bool
 had:Bool
 old:Int×Int×List UInt8×Nat
 deriving DecidableEq
structure KeyS where
 m:Key
 o:KeyO
 deriving DecidableEq
end Go.AM
namespace Go.AM
theorem acG {k:Int} (h:(Lit.int .i64 k).wf=true):in64 k:=by
 have h1:IntKind.i64.min= -(2 ^ 63):=by rfl
 have h2:IntKind.i64.max=2 ^ 63 - 1:=by rfl
 simp only [Lit.wf,Bool.and_eq_true,decide_eq_true_eq] at h
 unfold in64
 omega
theorem BK {c:IV} (h:ShOK (.int .i64) c): ∃n,c= .int .i64 n/\in64 n:=by
 cases h with | int k n hw=>exact ⟨n,rfl,acG hw⟩
theorem acS {c:IV} (h:ShOK (.flt .f64) c): ∃n,c= .flt .f64 n/\n < 2 ^ 64/\canF .f64 n=n:=by
 cases h with | flt k n hw hc=>simp only [Lit.wf,decide_eq_true_eq] at hw;exact ⟨n,rfl,hw,hc⟩
theorem OKl.fl {l:List Rw} (h:OKl l): ∀r∈l,r.rk < 2 ^ 64:= λr hr=>(h r hr).rk
end Go.AM
namespace Go.AM
def Ri (r:Rw):Bool:=Vs r.ch r.par r.nm
def Y8 (a b:Rw):Bool:=decide (a.ch < b.ch)
def mayR (l:List Rw):Bool:=decide (l.length<=2000)&&(l.all Ri&&xQ Y8 l&& !l.any λr=>Ak l r.ch r.ch)
end Go.AM
