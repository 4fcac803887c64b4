/- Rows, plainly: what the functions of a tree and their references do. -/
import Derived.Test.YtgoenohknokcmaaGreatMv
import Derived.Test.YtgoenohknokcmaaGreatAe
import Derived.KernelRfl
set_option linter.unusedVariables false
set_option linter.unusedSimpArgs false
namespace Go.AM
structure Rw where
 ch:Int
 par:Int
 nm:ByteArray
 rk:Nat
 deriving Inhabited
def VA (r:Rw):List IV:=[.int .i64 r.ch,.int .i64 r.par,.str r.nm,.flt .f64 r.rk]
abbrev ar (l:List Rw):IV:= .lst (l.map VA)
theorem Li {l:List Rw} {i:Nat} {x:Rw} (h:l[i]? =some x):i < l.length/\dH (ar l) (.int .i64 (i:Int)) 4=some i/\eR (ar l) i 0 4=some [.int .i64 x.ch,.int .i64 x.par,.str x.nm,.flt .f64 x.rk]/\qA (ar l) i 0=some (.int .i64 x.ch)/\qA (ar l) i 1=some (.int .i64 x.par)/\qA (ar l) i 2=some (.str x.nm)/\qA (ar l) i 3=some (.flt .f64 x.rk)/\cE l.length (.int .i64 (i:Int))=some i:=
 ⟨(List.getElem?_eq_some_iff.1 h).1,nK h rfl (by decide),wF h rfl,er h,er h,er h,er h,vC (List.getElem?_eq_some_iff.1 h).1⟩
theorem Yn {l:List Rw} {i:Nat} {x:Rw} (h:l[i]? =some x) (r:Rw):zy (ar l) i 0 [.int .i64 r.ch,.int .i64 r.par,.str r.nm,.flt .f64 r.rk]=some (ar (l.set i r)):=by
 simp only [zy,List.getElem?_map,h,Option.map_some,Option.bind_some,VA,List.length_cons,List.length_nil]
 rw [if_pos (by decide)]
 simp only [ar,List.map_set]
 rfl
def od (c:Int) (x:Rw):Bool:=decide (x.ch=c)
def atR (l:List Rw) (c:Int):Nat:=(l.findIdx? fun x=>decide (c < x.ch)).getD l.length
def fV (l:List Rw) (c:Int):Option Rw:=l.find? (od c)
def kj (l:List Rw) (r:Rw):List Rw:=match l.findIdx? (od r.ch) with | some i=>l.set i r | none=>l.take (atR l r.ch)++[r]++l.drop (atR l r.ch)
def LH (l:List Rw) (c:Int):List Rw:=match l.findIdx? (od c) with | some i=>l.take i++l.drop (i+1) | none=>l
theorem Sy (l:List Rw) (c:Int):atR l c<=l.length:=by
 unfold atR
 cases h:l.findIdx? fun x=>decide (c < x.ch) with
 | none=>simp
 | some i=>have:=(List.findIdx?_eq_some_iff_getElem.1 h).1;simp;omega
theorem QF (l:List Rw) (c:Int):fV l c=match l.findIdx? (od c) with | some i=>l[i]? | none=>none:=by
 unfold fV
 induction l with
 | nil=>rfl
 | cons x l ih=>
   simp only [List.find?_cons,List.findIdx?_cons]
   cases h:od c x with
   | true=>simp
   | false=>
     simp only [ih,Bool.false_eq_true,if_false]
     cases l.findIdx? (od c)<;>simp
def in64 (n:Int):Prop:= -(2 ^ 63)<=n/\n < 2 ^ 63
structure OKr (r:Rw):Prop where
 rk:r.rk < 2 ^ 64
 ch:in64 r.ch
 par:in64 r.par
def OKl (l:List Rw):Prop:= ∀r∈l,OKr r
theorem Ow {n:Int} (h:in64 n):(Lit.int .i64 n).wf=true:=by
 have h1:IntKind.i64.min= -(2 ^ 63):=by rfl
 have h2:IntKind.i64.max=2 ^ 63 - 1:=by rfl
 simp only [Lit.wf,Bool.and_eq_true,decide_eq_true_eq]
 unfold in64 at h
 omega
theorem OKl.set {l:List Rw} {r:Rw} (h:OKl l) (hr:OKr r):OKl (kj l r):=by
 intro x hx
 unfold kj at hx
 split at hx
 ·rcases List.mem_or_eq_of_mem_set hx with hx | rfl
  ·exact h x hx
  ·exact hr
 ·rcases List.mem_append.1 hx with hx | hx
  ·rcases List.mem_append.1 hx with hx | hx
   ·exact h x (List.mem_of_mem_take hx)
   ·simp at hx;subst hx;exact hr
  ·exact h x (List.mem_of_mem_drop hx)
theorem DJ (l:List Rw) (r:Rw):(kj l r).length<=l.length+1:=by
 unfold kj
 split
 ·simp
 ·have:=Sy l r.ch
  simp;omega
theorem Nx (l:List Rw) (c:Int):(LH l c).length<=l.length:=by
 unfold LH
 split
 ·simp;omega
 ·exact Nat.le_refl _
theorem y4 {C:IV->List Nat->List (List IV)->Option (List IV)} {fv:IV} {p:Rw->Bool} {l:List Rw} (hl:l.length < 2 ^ 16) (hC: ∀x∈l,C fv [1] [VA x]=some [.bool (p x)]):
  aY C (ar l) fv=some [.int .i64 (R3 p l)]:=by
 unfold aY
 simp only [aD,Option.bind_some]
 rw [kW (vs0:=[IV.int .i64 0]) (fun i=>[IV.int .i64 (i:Int)]) p 1 (fun i=>[IV.int .i64 (i:Int)]) 0 [] l rfl (by have:=bc;omega)]
 ·unfold R3
  cases l.findIdx? p<;>simp
 ·intro i x hx
  have hi:i < l.length:=(List.getElem?_eq_some_iff.1 hx).1
  have hc:=hC x (List.mem_of_getElem? hx)
  unfold fS
  unfold VA at hc
  simp only [ag,aC,bV,bw,eJ,eF,aJ,List.length_map,Int.ofNat_lt,Li hx,decide_true,aj,Option.bind_some,hc,bE,aL (show i < 2 ^ 62 by omega),if_true]
  cases p x<;>rfl
 ·unfold fS
  simp
theorem rB {l:List Rw} (hl:l.length < 2 ^ 16) (c:Int):gv (ar l) (.int .i64 c)=some [.int .i64 (R3 (od c) l),.bool (decide (0<=R3 (od c) l))]:=by
 unfold gv
 rw [y4 hl (p:=od c)]
 ·simp
 ·intro x _
  show iX (.int .i64 x.ch) (.int .i64 x.par) (.str x.nm) (.flt .f64 x.rk) (.ptr [.int .i64 c] 0)=_
  unfold iX
  simp [gX,od]
def GY:Option Rw->List IV
 | some x=>[.int .i64 x.ch,.int .i64 x.par,.str x.nm,.flt .f64 x.rk,.bool true]
 | none=>[.int .i64 0,.int .i64 0,.str ⟨#[]⟩,.flt .f64 0,.bool false]
theorem Nd {l:List Rw} (hl:l.length < 2 ^ 16) (c:Int):nv (ar l) (.int .i64 c)=some (GY (fV l c)):=by
 unfold nv
 rw [rB hl,QF]
 cases h:l.findIdx? (od c) with
 | none=>simp [pV h,GY,aQ]
 | some i=>
   obtain ⟨x,hx,_⟩:=lp h
   simp [o7 h,Li hx,aQ,hx,GY]
   have e:=(List.getElem?_eq_some_iff.1 hx).2
   simp [e]
theorem LL {l:List Rw} (hl:l.length < 2 ^ 16) {i:Nat} (hi:i<=l.length) (r:Rw):cw (ar l) (.int .i64 (i:Int)) (.lst [[.int .i64 r.ch,.int .i64 r.par,.str r.nm,.flt .f64 r.rk]])=some [ar (l.take i++[r]++l.drop i)]:=by
 unfold cw
 simp only [oP]
 rw [if_pos]
 ·simp [VA]
 ·refine ⟨by omega,by simp;omega,by simp;omega,rfl⟩
theorem AQ {l:List Rw} (hl:l.length < 2 ^ 16):aO (ar l)=some [ar l]:=by
 unfold aO
 simp only [p8]
 rw [if_pos]
 refine ⟨by simp;omega,by simp [VA]⟩
theorem UK {l:List Rw} (hl:l.length < 2 ^ 16) {i:Nat} (hi:i < l.length):dw (ar l) (.int .i64 (i:Int)) (.int .i64 ((i+1:Nat):Int))=some [ar (l.take i++l.drop (i+1))]:=by
 unfold dw
 simp only [Bf]
 rw [if_pos]
 ·simp
 ·refine ⟨by omega,by omega,by simp;omega,by simp;omega⟩
theorem Ee {l:List Rw} (hl:l.length < 2 ^ 16) (r:Rw):mV (ar l) (.int .i64 r.ch) (.int .i64 r.par) (.str r.nm) (.flt .f64 r.rk)=some [ar (kj l r)]:=by
 unfold mV kj
 rw [AQ hl]
 simp only [Option.bind_some]
 rw [rB hl]
 simp only [Option.bind_some,aC,ag,aQ]
 cases h:l.findIdx? (od r.ch) with
 | some i=>
   obtain ⟨x,hx,_⟩:=lp h
   rw [o7 h,if_pos (Int.natCast_nonneg _)]
   simp only [Wy,List.length_map,Li hx,Option.bind_some,Yn hx]
 | none=>
   rw [pV h,if_neg (by omega)]
   rw [y4 hl (p:=fun x=>decide (r.ch < x.ch))]
   ·simp only [Option.bind_some,ag,aJ,aQ,atR]
    cases hh:l.findIdx? (fun x=>decide (r.ch < x.ch)) with
    | none=>
      have:=LL hl (Nat.le_refl _) r
      simp [pV hh,this]
    | some i=>
      obtain ⟨hi,_⟩:=List.findIdx?_eq_some_iff_getElem.1 hh
      have:=LL hl (Nat.le_of_lt hi) r
      simp [o7 hh,this,show ¬((i:Int) < 0) by omega]
   ·intro x _
    show mB (.int .i64 x.ch) (.int .i64 x.par) (.str x.nm) (.flt .f64 x.rk) (.ptr [.int .i64 r.ch,.int .i64 r.par,.str r.nm,.flt .f64 r.rk] 0)=_
    unfold mB
    simp [gX,gY]
theorem Nv {l:List Rw} (hl:l.length < 2 ^ 16) (c:Int):nD (ar l) (.int .i64 c)=some [ar (LH l c)]:=by
 unfold nD LH
 rw [rB hl]
 simp only [Option.bind_some,aC,ag,jn,bE]
 cases h:l.findIdx? (od c) with
 | some i=>
   obtain ⟨x,hx,_⟩:=lp h
   have hi:=(List.getElem?_eq_some_iff.1 hx).1
   rw [o7 h]
   simp only [Int.natCast_nonneg,decide_true,Bool.not_true,Bool.false_eq_true,if_false]
   rw [AQ hl]
   simp only [Option.bind_some,ag,aL (show i < 2 ^ 62 by omega),UK hl hi]
 | none=>rw [pV h];simp
def cX (r:Rw):Int×Int×List UInt8×Nat:=(r.ch,r.par,r.nm.toList,uf r.rk)
def TI (a b:List Rw):Bool:=decide (a.map cX=b.map cX)
theorem Mt {a b:Rw} (h:a.rk < 2 ^ 64) (h':b.rk < 2 ^ 64):fp (.int .i64 a.ch) (.int .i64 a.par) (.str a.nm) (.flt .f64 a.rk) (.int .i64 b.ch) (.int .i64 b.par) (.str b.nm) (.flt .f64 b.rk)=some [.bool (decide (cX a=cX b))]:=by
 rw [vV h h']
 simp [cX,Prod.mk.injEq]
theorem JC {a b:List Rw} (ha:a.length < 2 ^ 16) (hfa: ∀r∈a,r.rk < 2 ^ 64) (hfb: ∀r∈b,r.rk < 2 ^ 64):jj (ar a) (ar b)=some [.bool (TI a b)]:=by
 unfold jj TI
 simp only [aD,Option.bind_some,vB,List.length_map,aQ]
 by_cases hlen:a.length=b.length
 ·rw [if_neg (by omega)]
  rw [ta (vs0:=[.int .i64 0]) (fun i=>[IV.int .i64 (i:Int)]) (fun i x=>decide ((b[i]?).map cX≠some (cX x))) 1 [.bool false] 0 [] a rfl (by have:=bc;omega),any_keys hlen (b0:=b) (fun i=>by rw [Nat.zero_add])]
  ·by_cases h:a.map cX=b.map cX<;>simp [h]
  ·intro i x hx
   have hi:i < a.length:=(List.getElem?_eq_some_iff.1 hx).1
   have hy:b[i]? =some (b[i]'(by omega)):=List.getElem?_eq_getElem (by omega)
   generalize b[i]'(by omega)=y at hy
   have hk:=Mt (hfa x (List.mem_of_getElem? hx)) (hfb y (List.mem_of_getElem? hy))
   unfold ra
   simp only [aD,Option.bind_some,ag,aC,bV,bw,eJ,eF,aJ,List.length_map,Int.ofNat_lt,Li hx,Li hy,decide_true,aj,hk,jn,bE,aL (show i < 2 ^ 62 by omega),hy,Option.map_some,if_true]
   by_cases h:cX x=cX y
   ·simp [h]
   ·have: ¬cX y=cX x:=fun e=>h e.symm
    simp [h,this]
  ·unfold ra
   simp
 ·rw [if_pos (by omega)]
  have: ¬a.map cX=b.map cX:=fun h=>hlen (by have:=congrArg List.length h;simpa using this)
  simp [this]
theorem S1 (a:List Rw):TI a a=true:=by simp [TI]
end Go.AM
namespace Go.AM
theorem Lu {f:Int->Option Int}: ∀{n m:Nat} {b:Int},n<=m-> ∀x,x∈upto f n b->x∈upto f m b
 | 0,m,b,_,x,h=>by simp [upto] at h
 | n+1,m+1,b,hle,x,h=>by
   unfold upto at h ⊢
   split
   ·rename_i hb;rw [hb] at h;exact h
   ·rename_i y hb
    rw [hb] at h
    rcases List.mem_cons.1 h with rfl | h
    ·exact List.mem_cons_self
    ·exact List.mem_cons_of_mem _ (Lu (by omega) x h)
def nodeAt (f:Int->Option Int):Nat->Int->Option Int
 | 0,b=>some b
 | n+1,b=>(f b).bind fun y=>nodeAt f n y
theorem AR {f:Int->Option Int}: ∀{n:Nat} {b x:Int},x∈upto f n b↔ ∃k,k < n/\nodeAt f (k+1) b=some x
 | 0,b,x=>by simp [upto]
 | n+1,b,x=>by
   unfold upto
   cases hb:f b with
   | none=>
     simp only [List.not_mem_nil,false_iff,not_exists,not_and]
     intro k _ h
     simp [nodeAt,hb] at h
   | some y=>
     simp only [List.mem_cons]
     rw [AR]
     constructor
     ·rintro (rfl | ⟨k,hk,h⟩)
      ·exact ⟨0,by omega,by simp [nodeAt,hb]⟩
      ·exact ⟨k+1,by omega,by rw [nodeAt,hb];exact h⟩
     ·rintro ⟨k,hk,h⟩
      rw [nodeAt,hb] at h
      cases k with
      | zero=>left;simpa [nodeAt] using h.symm
      | succ k=>right;exact ⟨k,by omega,h⟩
theorem fe {f:Int->Option Int}: ∀(j:Nat) {k:Nat} {b:Int},nodeAt f (j+k) b=(nodeAt f j b).bind (nodeAt f k)
 | 0,k,b=>by simp [nodeAt]
 | j+1,k,b=>by
   rw [show j+1+k=(j+k)+1 by omega,nodeAt,nodeAt]
   cases f b with
   | none=>rfl
   | some y=>simp only [Option.bind_some];exact fe j
theorem DT {f:Int->Option Int} {n:Nat} {b x:Int} (h:nodeAt f n b=some x): ∀k,k<=n-> ∃y,nodeAt f k b=some y:=by
 intro k hk
 have:nodeAt f (k+(n - k)) b=some x:=by rw [show k+(n - k)=n by omega];exact h
 rw [fe] at this
 obtain ⟨y,h1,_⟩:=Option.bind_eq_some_iff.1 this
 exact ⟨y,h1⟩
theorem Y7 {K:List Int} (g:Nat->Int): ∀n,K.length < n->(∀i,i < n->g i∈K)-> ∃i j,i < j/\j < n/\g i=g j:=by
 induction K generalizing g with
 | nil=>intro n hn h;exact absurd (h 0 (by simpa using hn)) (by simp)
 | cons x K ih=>
   intro n hn h
   by_cases hx: ∃i j,i < j/\j < n/\g i=g j
   ·exact hx
   ·exfalso
    have: ∃i0,i0 < n/\(∀i,i < n->g i=x->i=i0):=by
     by_cases h0: ∃i,i < n/\g i=x
     ·obtain ⟨i0,h1,h2⟩:=h0
      refine ⟨i0,h1,fun i hi he=> ?_⟩
      rcases Nat.lt_trichotomy i i0 with hl | hl | hl
      ·exact absurd ⟨i,i0,hl,h1,he.trans h2.symm⟩ hx
      ·exact hl
      ·exact absurd ⟨i0,i,hl,hi,h2.trans he.symm⟩ hx
     ·exact ⟨0,by simp at hn;omega,fun i hi he=>absurd ⟨i,hi,he⟩ h0⟩
    obtain ⟨i0,h1,h2⟩:=this
    obtain ⟨i,j,h3,h4,h5⟩:=ih (fun i=>g (if i < i0 then i else i+1)) (n - 1) (by simp at hn;omega) (fun i hi=>by
     have hlt:(if i < i0 then i else i+1) < n:=by split<;>omega
     rcases List.mem_cons.1 (h _ hlt) with he | he
     ·have:=h2 _ hlt he
      split at this<;>omega
     ·exact he)
    refine hx ⟨if i < i0 then i else i+1,if j < i0 then j else j+1,?_,?_,h5⟩
    ·split<;>split<;>omega
    ·split<;>omega
theorem AP {f:Int->Option Int} {K:List Int} (hK: ∀x,(f x).isSome=true->x∈K) {b x:Int}: ∀n,nodeAt f (n+1) b=some x-> ∃k,k < K.length/\nodeAt f (k+1) b=some x:=by
 intro n
 induction n using Nat.strongRecOn with
 | ind n ih=>
   intro h
   by_cases hn:n < K.length
   ·exact ⟨n,hn,h⟩
   ·have hg: ∀i,i < n+1-> ∃y,nodeAt f i b=some y/\y∈K:=by
     intro i hi
     obtain ⟨y,hy⟩:=DT h i (by omega)
     obtain ⟨z,hz⟩:=DT h (i+1) (by omega)
     rw [fe,hy] at hz
     simp only [Option.bind_some,nodeAt] at hz
     refine ⟨y,hy,hK y ?_⟩
     cases hf:f y with
     | none=>rw [hf] at hz;simp at hz
     | some _=>rfl
    obtain ⟨i,j,h1,h2,h3⟩:=Y7 (K:=K) (fun i=>(nodeAt f i b).getD 0) (n+1) (by omega) (fun i hi=>by
     obtain ⟨y,hy,hk⟩:=hg i hi
     rw [hy];exact hk)
    obtain ⟨yi,hi,_⟩:=hg i (by omega)
    obtain ⟨yj,hj,_⟩:=hg j h2
    rw [hi,hj] at h3
    simp only [Option.getD_some] at h3
    subst h3
    have:nodeAt f (i+(n - j)+1) b=some x:=by
     rw [show i+(n - j)+1=i+(n+1 - j) by omega,fe,hi]
     have h4:nodeAt f (j+(n+1 - j)) b=some x:=by rw [show j+(n+1 - j)=n+1 by omega];exact h
     rw [fe,hj] at h4
     exact h4
    exact ih (i+(n - j)) (by omega) this
theorem Rg {f:Int->Option Int} {K:List Int} (hK: ∀x,(f x).isSome=true->x∈K) {b:Int} {n:Nat} (hn:K.length<=n) (x:Int):x∈upto f n b↔x∈upto f K.length b:=by
 constructor
 ·intro h
  obtain ⟨k,_,h1⟩:=AR.1 h
  obtain ⟨j,hj,h2⟩:=AP hK k h1
  exact AR.2 ⟨j,hj,h2⟩
 ·exact Lu hn x
def Fb (r:Rw):Int×Int:=(r.ch,r.par)
def OU (l:List Rw):Int->Option Int:=lD (l.map Fb)
def td (l:List Rw) (a b:Int):Bool:=(upto (OU l) l.length b).contains a
theorem Ie (l:List Rw) (c:Int):OU l c=(fV l c).map (·.par):=by
 unfold OU lD fV
 induction l with
 | nil=>rfl
 | cons x l ih=>
   simp only [List.map_cons,List.find?_cons]
   have e:((Fb x).1==c)=od c x:=by unfold Fb od;by_cases h:x.ch=c<;>simp [h]
   rw [e]
   cases od c x with
   | true=>rfl
   | false=>exact ih
theorem contains_iff {l:List Int} {x:Int}:l.contains x=true↔x∈l:=by simp
theorem VT {r:Rw} (h:OKr r):EN (VA r)=some (Fb r):=by
 unfold EN VA
 simp only
 rw [if_pos ⟨Ow h.ch,Ow h.par⟩]
 rfl
theorem CD: ∀{l:List Rw},OKl l->(l.map VA).mapM EN=some (l.map Fb)
 | [],_=>rfl
 | r::l,h=>by
   rw [List.map_cons,List.mapM_cons,VT (h r List.mem_cons_self),CD fun x hx=>h x (List.mem_cons_of_mem _ hx)]
   rfl
theorem C9 (l:List Rw) (a b:Int):(upto (lD (l.map Fb)) (cA (l.map Fb)).length b).contains a=td l a b:=by
 unfold td OU
 have h:=Rg (f:=lD (l.map Fb)) (K:=cA (l.map Fb)) (fun x hx=>(pN _ x).2 hx) (b:=b) (n:=l.length) (by have:=Bk (l.map Fb);simpa using this) a
 cases h1:(upto (lD (l.map Fb)) (cA (l.map Fb)).length b).contains a<;>cases h2:(upto (lD (l.map Fb)) l.length b).contains a<;>simp_all
theorem KR {l:List Rw} (hl:l.length < 2 ^ 16) (ho:OKl l) (a:Int) {b:Int} (hb:in64 b):oT (ar l) (.int .i64 a) (.int .i64 b)=some [.bool (td l a b)]:=by
 unfold oT Hn
 simp only [List.length_map]
 rw [if_pos ⟨by omega,Ow hb⟩,CD ho,Option.map_some,C9]
def xQ (l:List Rw) (m:Mv):Bool:=decide (m.ch=0)||decide (m.ch=m.par)||td l m.ch m.par
structure OKm (m:Mv):Prop where
 rk:m.rk < 2 ^ 64
 ch:in64 m.ch
 par:in64 m.par
def rowOf (m:Mv):Rw:=⟨m.ch,m.par,m.nm,m.rk⟩
theorem OKm.row {m:Mv} (h:OKm m):OKr (rowOf m):=⟨h.rk,h.ch,h.par⟩
def yN (l:List Rw) (m:Mv):List Rw:=if xQ l m=true then l else kj l (rowOf m)
theorem OKl.yN {l:List Rw} {m:Mv} (h:OKl l) (hm:OKm m):OKl (yN l m):=by
 unfold AM.yN
 split
 ·exact h
 ·exact h.set hm.row
theorem p9 (l:List Rw) (m:Mv):(yN l m).length<=l.length+1:=by
 unfold yN
 split
 ·omega
 ·exact DJ _ _
theorem Hy {l:List Rw} (hl:l.length < 2 ^ 16) (ho:OKl l) {m:Mv} (hm:OKm m):kb (ar l) (.int .i64 m.c) (.int .i64 m.r) (.int .i64 m.par) (.int .i64 m.ch) (.str m.nm) (.flt .f64 m.rk)=some [.bool (xQ l m)]:=by
 unfold kb xQ
 simp only [nW,Option.bind_some,aQ]
 by_cases h1:m.ch=0
 ·simp [h1]
 ·by_cases h2:m.ch=m.par
  ·simp [h1,h2]
  ·simp only [h1,h2,if_false,KR hl ho m.ch hm.par,Option.bind_some,ag,dV,fU,Option.map_some,decide_false,Bool.false_or]
theorem Gc {l:List Rw} (hl:l.length < 2 ^ 16) (ho:OKl l) {m:Mv} (hm:OKm m):o4 (ar l) (.int .i64 m.c) (.int .i64 m.r) (.int .i64 m.par) (.int .i64 m.ch) (.str m.nm) (.flt .f64 m.rk)=some [ar (yN l m),.bool (!xQ l m)]:=by
 unfold o4 yN
 simp only [Hy hl ho hm,Option.bind_some,ag,bE]
 cases h:xQ l m with
 | true=>simp
 | false=>
   have:=Ee hl (rowOf m)
   simp only [rowOf] at this
   simp only [Bool.false_eq_true,if_false,BI m,Option.bind_some,ag,aC,bV,bw,this,Bool.not_false]
   rfl
def allV (l:List Rw) (ms:List Mv):List Rw:=ms.foldl yN l
theorem OKl.allV: ∀{ms:List Mv} {l:List Rw},OKl l->(∀m∈ms,OKm m)->OKl (allV l ms)
 | [],l,h,_=>h
 | m::ms,l,h,hm=>OKl.allV (ms:=ms) (h.yN (hm m List.mem_cons_self)) fun x hx=>hm x (List.mem_cons_of_mem _ hx)
theorem nN: ∀(ms:List Mv) (l:List Rw),(allV l ms).length<=l.length+ms.length
 | [],l=>Nat.le_refl _
 | m::ms,l=>by
   have h1:=nN ms (yN l m)
   have h2:=p9 l m
   show (allV (yN l m) ms).length<=_
   simp only [List.length_cons]
   omega
theorem DV (l:List Rw) (a b:List Mv):allV l (a++b)=allV (allV l a) b:=List.foldl_append
theorem DX {l:List Rw} {ms:List Mv} (hl:l.length+ms.length < 2 ^ 16) (ho:OKl l) (hm: ∀m∈ms,OKm m):kO (ar l) (az ms)=some [ar (allV l ms)]:=by
 unfold kO
 simp only [aD,Option.bind_some]
 rw [kU (vs0:=[ar l,.int .i64 0]) (fun i (s:List Rw)=>[ar s,.int .i64 (i:Int)]) yN 0 (fun s=>[ar s]) (fun i s=>OKl s/\s.length<=l.length+i) ms l rfl (by have:=bc;omega) ⟨ho,by omega⟩]
 ·simp [allV]
 ·intro i s x hx hI
  have hi:i < ms.length:=(List.getElem?_eq_some_iff.1 hx).1
  have hxm:=hm x (List.mem_of_getElem? hx)
  refine ⟨⟨hI.1.yN hxm,by have:=p9 s x;omega⟩,?_⟩
  unfold vJ
  have hd:=Gc (l:=s) (by omega) hI.1 hxm
  simp only [ag,aC,bV,bw,eJ,eF,aJ,List.length_map,Int.ofNat_lt,hi,nw hx,decide_true,aj,Option.bind_some,hd,aL (show i < 2 ^ 62 by omega)]
 ·intro s _
  unfold vJ
  simp
end Go.AM
namespace Go.AM
structure Stp where
 mv:Mv
 moved:Bool
 had:Bool
 old:Rw
def AI (s:Stp):List IV:=[.int .i64 s.mv.c,.int .i64 s.mv.r,.int .i64 s.mv.par,.int .i64 s.mv.ch,.str s.mv.nm,.flt .f64 s.mv.rk,.bool s.moved,.bool s.had,.int .i64 s.old.ch,.int .i64 s.old.par,.str s.old.nm,.flt .f64 s.old.rk]
abbrev bn (l:List Stp):IV:= .lst (l.map AI)
theorem WD {l:List Stp} {i:Nat} {s:Stp} (h:l[i]? =some s):i < l.length/\dH (bn l) (.int .i64 (i:Int)) 12=some i/\eR (bn l) i 0 12=some (AI s)/\qA (bn l) i 4=some (.str s.mv.nm)/\qA (bn l) i 10=some (.str s.old.nm)/\eR (bn l) i 0 6=some [.int .i64 s.mv.c,.int .i64 s.mv.r,.int .i64 s.mv.par,.int .i64 s.mv.ch,.str s.mv.nm,.flt .f64 s.mv.rk]:=
 ⟨(List.getElem?_eq_some_iff.1 h).1,nK h rfl (by decide),wF h rfl,er h,er h,by
   simp only [eR,List.getElem?_map,h,Option.map_some,Option.bind_some,AI,List.length_cons,List.length_nil]
   rw [if_pos (by decide)]
   rfl⟩
structure OKs (s:Stp):Prop where
 mv:OKm s.mv
 old:OKr s.old
def OA:Rw:=⟨0,0,⟨#[]⟩,0⟩
def jR (l:List Rw) (m:Mv):Stp:=
 if xQ l m=true then ⟨m,false,false,OA⟩ else match fV l m.ch with | some x=>⟨m,true,true,x⟩ | none=>⟨m,true,false,OA⟩
theorem Pd (l:List Rw) (m:Mv):(jR l m).mv=m:=by
 unfold jR
 split
 ·rfl
 ·split<;>rfl
theorem Tr {l:List Rw} (hl:l.length < 2 ^ 16) (ho:OKl l) {m:Mv} (hm:OKm m):si (ar l) (.int .i64 m.c) (.int .i64 m.r) (.int .i64 m.par) (.int .i64 m.ch) (.str m.nm) (.flt .f64 m.rk)=some (ar (yN l m)::AI (jR l m)):=by
 unfold si jR
 simp only [Gc hl ho hm,Option.bind_some,ag,aC,bE]
 cases h:xQ l m with
 | true=>simp [AI,OA]
 | false=>
   simp only [Bool.not_false,if_true,Bool.false_eq_true,if_false,Nd hl,Option.bind_some]
   cases hf:fV l m.ch with
   | none=>simp [GY,AI,OA]
   | some x=>simp [GY,AI]
def ud (l:List Rw) (s:Stp):List Rw:=if s.moved=true then (if s.had=true then kj l s.old else LH l s.mv.ch) else l
theorem N3 (l:List Rw) (s:Stp):(ud l s).length<=l.length+1:=by
 unfold ud
 split
 ·split
  ·exact DJ _ _
  ·have:=Nx l s.mv.ch;omega
 ·omega
theorem Ay {l:List Rw} (hl:l.length < 2 ^ 16) (s:Stp):fY (ar l) (.int .i64 s.mv.c) (.int .i64 s.mv.r) (.int .i64 s.mv.par) (.int .i64 s.mv.ch) (.str s.mv.nm) (.flt .f64 s.mv.rk) (.bool s.moved) (.bool s.had) (.int .i64 s.old.ch) (.int .i64 s.old.par) (.str s.old.nm) (.flt .f64 s.old.rk)=some [ar (ud l s)]:=by
 unfold fY ud
 simp only [jn,Option.bind_some,bE,Ee hl s.old,Nv hl,ag]
 cases s.moved<;>cases s.had<;>simp
def UN (p:List Rw×List Stp) (m:Mv):List Rw×List Stp:=(yN p.1 m,p.2++[jR p.1 m])
def aA:List Rw->List Mv->List Stp
 | _,[]=>[]
 | l,m::ms=>jR l m::aA (yN l m) ms
theorem TU: ∀(ms:List Mv) (l:List Rw) (k:List Stp),ms.foldl UN (l,k)=(allV l ms,k++aA l ms)
 | [],l,k=>by simp [allV,aA]
 | m::ms,l,k=>by
   rw [List.foldl_cons]
   show ms.foldl UN (yN l m,k++[jR l m])=_
   rw [TU ms]
   simp [allV,aA]
theorem dP: ∀(ms:List Mv) (l:List Rw),(aA l ms).length=ms.length
 | [],_=>rfl
 | m::ms,l=>by simp [aA,dP ms]
theorem Dc: ∀(ms:List Mv) (l:List Rw),(aA l ms).map (·.mv)=ms
 | [],_=>rfl
 | m::ms,l=>by simp [aA,Dc ms,Pd]
theorem rh: ∀(a b:List Mv) (l:List Rw),aA l (a++b)=aA l a++aA (allV l a) b
 | [],_,_=>rfl
 | m::a,b,l=>by simp [aA,rh a b,allV]
theorem Qd {l k:List Stp} (hl:l.length < 2 ^ 20) (hk:k.length < 2 ^ 20):lY 12 104 (bn l) (bn k)=some (bn (l++k)):=by
 simp only [lY]
 rw [if_pos]
 ·simp
 ·refine ⟨by simp;omega,by simp [AI]⟩
theorem PJ {l:List Rw} {ms:List Mv} (hl:l.length+ms.length < 2 ^ 16) (ho:OKl l) (hm: ∀m∈ms,OKm m):pE (ar l) (az ms)=some [ar (allV l ms),bn (aA l ms)]:=by
 unfold pE
 simp only [aD,Option.bind_some]
 rw [kU (vs0:=[ar l,.lst [],.int .i64 0]) (fun i (s:List Rw×List Stp)=>[ar s.1,bn s.2,.int .i64 (i:Int)]) UN 0 (fun s=>[ar s.1,bn s.2]) (fun i s=>OKl s.1/\s.1.length<=l.length+i/\s.2.length=i) ms (l,[]) rfl (by have:=bc;omega) ⟨ho,by simp,rfl⟩]
 ·simp [TU]
 ·intro i s x hx hI
  have hi:i < ms.length:=(List.getElem?_eq_some_iff.1 hx).1
  have hxm:=hm x (List.mem_of_getElem? hx)
  refine ⟨⟨hI.1.yN hxm,by have:=p9 s.1 x;simp only [UN];omega,by simp [UN,hI.2.2]⟩,?_⟩
  unfold wI
  have hd:=Tr (l:=s.1) (by omega) hI.1 hxm
  have ha:lY 12 104 (bn s.2) (.lst [AI (jR s.1 x)])=some (bn (s.2++[jR s.1 x])):=Qd (l:=s.2) (k:=[jR s.1 x]) (by omega) (by simp)
  simp only [AI] at ha hd
  simp only [ag,aC,bV,bw,eJ,eF,BF,sd,W7,aJ,List.length_map,Int.ofNat_lt,hi,nw hx,decide_true,aj,Option.bind_some,hd,ha,aL (show i < 2 ^ 62 by omega),UN]
 ·intro s _
  unfold wI
  simp
def D7 (l:List Rw) (ss:List Stp):List Rw:=ss.foldr (fun s l=>ud l s) l
theorem Bv (l:List Rw): ∀ss:List Stp,(D7 l ss).length<=l.length+ss.length
 | []=>Nat.le_refl _
 | s::ss=>by
   have h1:=Bv l ss
   have h2:=N3 (D7 l ss) s
   show (ud (D7 l ss) s).length<=_
   simp only [List.length_cons];omega
def YO (s:Stp):StepV:=⟨s.mv.c,s.mv.r,s.mv.par,s.mv.ch,s.mv.nm,s.mv.rk,s.moved,s.had,s.old.ch,s.old.par,s.old.nm,s.old.rk⟩
theorem Ga: ∀(l:List Stp),(l.map AI).mapM Qx=some (l.map YO)
 | []=>rfl
 | s::l=>by rw [List.map_cons,List.mapM_cons,Ga l];rfl
theorem M5 {l:List Rw} {ss:List Stp} (hl:l.length+ss.length < 2 ^ 16):qu (ar l) (bn ss)=some [ar (D7 l ss)]:=by
 unfold qu TG
 simp only [List.length_map]
 rw [if_pos (by omega),Ga,Option.bind_some]
 have key: ∀ss:List Stp,l.length+ss.length < 2 ^ 16->pI (fun l=>match l with | [[x0],[x1,x2,x3,x4,x5,x6,x7,x8,x9,x10,x11,x12]]=>fY x0 x1 x2 x3 x4 x5 x6 x7 x8 x9 x10 x11 x12 | _=>none) (ss.map YO) (ar l)=some (ar (D7 l ss)):=by
  intro ss
  induction ss with
  | nil=>intro _;rfl
  | cons s ss ih=>
    intro hl2
    simp only [List.length_cons] at hl2
    have hb:=Bv l ss
    rw [List.map_cons,pI,ih (by omega),Option.bind_some]
    have:=Ay (l:=D7 l ss) (by omega) s
    simp only [StepV.ivs,YO]
    rw [this]
    rfl
 exact congrArg (Option.map fun y=>[y]) (key ss hl)
theorem Rr (l:List Mv):j7 (az l)=true:=by
 simp only [j7,List.all_map,List.all_eq_true]
 intro m _
 rfl
theorem Up (l:List Stp):j7 (bn l)=true:=by
 simp only [j7,List.all_map,List.all_eq_true]
 intro m _
 rfl
theorem WG (l:List Rw):j7 (ar l)=true:=by
 simp only [j7,List.all_map,List.all_eq_true]
 intro m _
 rfl
theorem K1 {ss:List Stp} (hl:ss.length < 2 ^ 16):jr (bn ss)=some [az (ss.map (·.mv))]:=by
 unfold jr
 simp only [aD,Option.bind_some]
 rw [kU (vs0:=[.lst [],.int .i64 0]) (fun i (s:List Mv)=>[az s,.int .i64 (i:Int)]) (fun s x=>s++[x.mv]) 0 (fun s=>[az s]) (fun i s=>s.length=i) ss [] rfl (by have:=bc;omega) rfl]
 ·have: ∀(ss:List Stp) (k:List Mv),ss.foldl (fun s x=>s++[x.mv]) k=k++ss.map (·.mv):=by
   intro ss
   induction ss with
   | nil=>intro k;simp
   | cons s ss ih=>intro k;rw [List.foldl_cons,ih];simp
  simp [this,Rr]
 ·intro i s x hx hI
  have hi:i < ss.length:=(List.getElem?_eq_some_iff.1 hx).1
  refine ⟨by simp [hI],?_⟩
  unfold rD
  have ha:lY 6 56 (az s) (.lst [[.int .i64 x.mv.c,.int .i64 x.mv.r,.int .i64 x.mv.par,.int .i64 x.mv.ch,.str x.mv.nm,.flt .f64 x.mv.rk]])=some (az (s++[x.mv])):=FB (l:=s) (k:=[x.mv]) (by omega) (by simp)
  simp only [ag,aC,bV,bw,eJ,eF,BF,sd,aJ,List.length_map,Int.ofNat_lt,hi,WD hx,AI,decide_true,aj,Option.bind_some,ha,aL (show i < 2 ^ 62 by omega)]
 ·intro s _
  unfold rD
  simp
structure KeyO where
 moved:Bool
 had:Bool
 old:Int×Int×List UInt8×Nat
 deriving DecidableEq
structure KeyS where
 m:Key
 o:KeyO
 deriving DecidableEq
def X5 (s:Stp):KeyO:=⟨s.moved,s.had,cX s.old⟩
def S5 (s:Stp):KeyS:=⟨l8 s.mv,X5 s⟩
end Go.AM
namespace Go.AM
theorem Yt {k:Int} (h:(Lit.int .i64 k).wf=true):in64 k:=by
 have h1:IntKind.i64.min= -(2 ^ 63):=by rfl
 have h2:IntKind.i64.max=2 ^ 63 - 1:=by rfl
 simp only [Lit.wf,Bool.and_eq_true,decide_eq_true_eq] at h
 unfold in64
 omega
theorem Ft {c:IV} (h:ShOK (.int .i64) c): ∃n,c= .int .i64 n/\in64 n:=by
 cases h with | int k n hw=>exact ⟨n,rfl,Yt hw⟩
theorem Yk {c:IV} (h:ShOK (.flt .f64) c): ∃n,c= .flt .f64 n/\n < 2 ^ 64:=by
 cases h with | flt k n hw=>simp only [Lit.wf,decide_eq_true_eq] at hw;exact ⟨n,rfl,hw⟩
theorem XV (e:List IV) (h:Typed ab6 e): ∃x,e=Tg x/\OKm x:=by
 obtain ⟨c0,_,rfl,h0,h⟩:=h.cons_inv
 obtain ⟨c1,_,rfl,h1,h⟩:=h.cons_inv
 obtain ⟨c2,_,rfl,h2,h⟩:=h.cons_inv
 obtain ⟨c3,_,rfl,h3,h⟩:=h.cons_inv
 obtain ⟨c4,_,rfl,h4,h⟩:=h.cons_inv
 obtain ⟨c5,_,rfl,h5,h⟩:=h.cons_inv
 cases h.nil_inv
 obtain ⟨n0,rfl,w0⟩:=Ft h0
 obtain ⟨n1,rfl,w1⟩:=Ft h1
 obtain ⟨n2,rfl,w2⟩:=Ft h2
 obtain ⟨n3,rfl,w3⟩:=Ft h3
 cases h4
 obtain ⟨n5,rfl,w5⟩:=Yk h5
 exact ⟨⟨_,_,_,_,_,_⟩,rfl,w5,w3,w2⟩
theorem Wn {cs:List IV} (h:Typed [.slc ab6] cs): ∃v:List Mv,cs=[az v]/\ ∀m∈v,OKm m:=by
 obtain ⟨c,rfl,h1⟩:=h.one_inv
 obtain ⟨l,rfl,hl⟩:=h1.list_invP XV
 exact ⟨l,rfl,hl⟩
theorem OKl.fl {l:List Rw} (h:OKl l): ∀r∈l,r.rk < 2 ^ 64:=fun r hr=>(h r hr).rk
end Go.AM
namespace Go.AM
def Q8 (r:Rw):Bool:=X8 r.ch r.par r.nm
def UB (a b:Rw):Bool:=decide (a.ch < b.ch)
def mayR (l:List Rw):Bool:=decide (l.length<=2000)&&(l.all Q8&&s8 UB l&& !l.any fun r=>td l r.ch r.ch)
theorem Q2 {l:List Rw} {i:Nat} {r:Rw} {c:Int} (h:l.findIdx? (od c)=some i) (hr:r.ch=c):(l.set i r).findIdx? (od c)=some i:=by
 obtain ⟨hi,hp,hn⟩:=List.findIdx?_eq_some_iff_getElem.1 h
 refine List.findIdx?_eq_some_iff_getElem.2 ⟨by simpa using hi,?_,fun j hj=> ?_⟩
 ·simp [od,hr]
 ·have:=hn j hj
  rw [List.getElem_set_ne (by omega)]
  exact this
theorem Rt {l:List Rw} {i:Nat} {r:Rw} {c:Int} (h:l.findIdx? (od c)=none) (hi:i<=l.length) (hr:r.ch=c):(l.take i++[r]++l.drop i).findIdx? (od c)=some i:=by
 rw [List.findIdx?_eq_none_iff] at h
 have hlen:(l.take i++[r]++l.drop i).length=l.length+1:=by simp;omega
 refine List.findIdx?_eq_some_iff_getElem.2 ⟨by omega,?_,fun j hj=> ?_⟩
 ·have:(l.take i++[r]++l.drop i)[i]? =some r:=by
   rw [List.append_assoc,List.getElem?_append_right (by simp;omega)]
   simp [Nat.min_eq_left hi]
  rw [List.getElem?_eq_getElem (by omega)] at this
  rw [Option.some.inj this]
  simp [od,hr]
 ·have h2:(l.take i++[r]++l.drop i)[j]? =l[j]? :=by
   rw [List.append_assoc,List.getElem?_append_left (by simp;omega),List.getElem?_take_of_lt hj]
  have h3:j < l.length:=by omega
  rw [List.getElem?_eq_getElem (by omega),List.getElem?_eq_getElem h3] at h2
  rw [Option.some.inj h2]
  simp [h _ (List.getElem_mem h3)]
theorem TF (l:List Rw) (m:Mv):ud (yN l m) (jR l m)=l:=by
 unfold yN jR
 by_cases hb:xQ l m=true
 ·simp [hb,ud]
 ·simp only [hb,if_false,Bool.false_eq_true]
  rw [QF]
  cases h:l.findIdx? (od m.ch) with
  | some i=>
    obtain ⟨x,hx,hp⟩:=lp h
    have hxc:x.ch=m.ch:=by simpa [od] using hp
    simp only [hx,ud,if_true]
    have h0:kj l (rowOf m)=l.set i (rowOf m):=by unfold kj;rw [show (rowOf m).ch=m.ch from rfl,h]
    rw [h0]
    unfold kj
    rw [hxc,Q2 h rfl]
    simp only
    have hi:=(List.getElem?_eq_some_iff.1 hx)
    obtain ⟨hlt,rfl⟩:=hi
    simp
  | none=>
    simp only [ud,if_true,Bool.false_eq_true,if_false]
    have h0:kj l (rowOf m)=l.take (atR l m.ch)++[rowOf m]++l.drop (atR l m.ch):=by unfold kj;rw [show (rowOf m).ch=m.ch from rfl,h]
    rw [h0]
    unfold LH
    rw [Rt h (Sy l m.ch) rfl]
    simp only
    have ha:=Sy l m.ch
    have e1:(l.take (atR l m.ch)++[rowOf m]++l.drop (atR l m.ch)).take (atR l m.ch)=l.take (atR l m.ch):=by
     rw [List.append_assoc,List.take_append_of_le_length (by simp;omega),List.take_take,Nat.min_self]
    have e2:(l.take (atR l m.ch)++[rowOf m]++l.drop (atR l m.ch)).drop (atR l m.ch+1)=l.drop (atR l m.ch):=by
     rw [List.drop_append_of_le_length (by simp;omega)]
     rw [List.drop_eq_nil_of_le (by simp;omega)]
     simp
    rw [e1,e2,List.take_append_drop]
theorem RF: ∀(ms:List Mv) (l:List Rw),D7 (allV l ms) (aA l ms)=l
 | [],l=>rfl
 | m::ms,l=>by
   show ud (D7 (allV (yN l m) ms) (aA (yN l m) ms)) (jR l m)=l
   rw [RF ms,TF]
end Go.AM
