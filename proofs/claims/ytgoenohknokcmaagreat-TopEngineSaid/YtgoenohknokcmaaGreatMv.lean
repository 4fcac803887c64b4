/- Moves, plainly: the program's functions and the references'. -/
import Derived.Test.YtgoenohknokcmaaGreatMk
import Derived.Test.YtgoenohknokcmaaGreatFl
set_option linter.unusedVariables false
set_option linter.unusedSimpArgs false
namespace Go.AM
def WN (a b:Int):Int:=if a < b then -1 else if b < a then 1 else 0
theorem xd (a b:Int):dc (.int .i64 a) (.int .i64 b)=some [.int .i64 (WN a b)]:=by
 unfold dc gH WN
 simp only [vB,Option.bind_some,ne_eq,not_true_eq_false,decide_false,dV,fU,Option.map_some,ag,aF,aJ,sP,aQ,QX]
 split
 ·rfl
 ·split<;>rfl
def XB (x:IV×Int):List IV:=[x.1]
def sX:List Int->Int
 | []=>0
 | x::l=>if x≠0 then x else sX l
theorem Gd {α:Type} {g:α->Int} {d:α}: ∀{l:List α},sX (l.map g)=match l.findIdx? (fun x=>decide (g x≠0)) with | some i=>g (l.getD i d) | none=>0
 | []=>rfl
 | x::l=>by
   simp only [List.map_cons,sX,List.findIdx?_cons,decide_eq_true_eq]
   by_cases h:g x≠0
   ·simp [h]
   ·simp only [h,if_false]
    rw [Gd (d:=d)]
    cases l.findIdx? (fun x=>decide (g x≠0))<;>simp
theorem K7 {C:IV->List Nat->List (List IV)->Option (List IV)} {l:List (IV×Int)} (hl:l.length < 100) (hC: ∀x∈l,C x.1 [1] []=some [.int .i64 x.2]):jl C (.lst (l.map XB))=some [.int .i64 (sX (l.map (·.2)))]:=by
 unfold jl
 simp only [aD,Option.bind_some]
 rw [kW (vs0:=[IV.int .i64 0]) (fun i=>[IV.int .i64 (i:Int)]) (fun x=>decide (x.2≠0)) 1 (fun i=>[IV.int .i64 (l.getD i (.nilp,0)).2]) 0 [] l rfl (by have:=bc;omega),Gd (d:=(.nilp,0))]
 ·cases l.findIdx? (fun x=>decide (x.2≠0))<;>simp
 ·intro i x hx
  have hi:i < l.length:=(List.getElem?_eq_some_iff.1 hx).1
  have hc:=hC x (List.mem_of_getElem? hx)
  have hxx:l.getD i (.nilp,0)=x:=by rw [List.getD_eq_getElem?_getD,hx];rfl
  have e1:=nK (enc:=XB) (sz:=1) hx rfl Nat.zero_lt_one
  have e2:qA (.lst (l.map XB)) i 0=some x.1:=er hx
  unfold rf
  simp only [ag,aJ,List.length_map,Int.ofNat_lt,hi,decide_true,aj,Option.bind_some,e1,e2,hc,vB,aQ,aL (show i < 2 ^ 62 by omega),hxx,decide_eq_true_eq]
  split<;>rfl
 ·unfold rf
  simp
theorem my (c r c' r':Int):fi (.int .i64 c) (.int .i64 r) (.int .i64 c') (.int .i64 r')=some [.bool (befB c r c' r')]:=by
 unfold fi
 have h:=K7 (C:=fT) (l:=[((.clo (.func gL) [(.ptr [.int .i64 c,.int .i64 r] 0),(.ptr [.int .i64 c',.int .i64 r'] 0)]),WN c c'),((.clo (.func gN) [(.ptr [.int .i64 c,.int .i64 r] 0),(.ptr [.int .i64 c',.int .i64 r'] 0)]),WN r r')]) (by simp) (by
  intro x hx
  simp only [List.mem_cons,List.not_mem_nil,or_false] at hx
  rcases hx with rfl | rfl
  ·show gM (.ptr [.int .i64 c,.int .i64 r] 0) (.ptr [.int .i64 c',.int .i64 r'] 0)=_
   unfold gM
   simp [gY,gX,xd]
  ·show gI (.ptr [.int .i64 c,.int .i64 r] 0) (.ptr [.int .i64 c',.int .i64 r'] 0)=_
   unfold gI
   simp [gY,gX,xd])
 simp only [List.map_cons,List.map_nil,XB] at h
 rw [h]
 simp only [Option.bind_some,ag,aJ,dV,fU,Option.map_some]
 congr 3
 unfold befB WN sX sX sX
 refine Bool.eq_of_iff ?_
 simp only [decide_eq_true_eq,Bool.or_eq_true,Bool.and_eq_true]
 by_cases h1:c < c'
 ·simp [h1]
 ·by_cases h2:c' < c
  ·have: ¬c=c':=by omega
   simp [h1,h2,this]
  ·have:c=c':=by omega
   by_cases h3:r < r'
   ·simp [h1,h2,h3,this]
   ·by_cases h4:r' < r<;>simp [h1,h2,h3,h4,this]
structure Key where
 c:Int
 r:Int
 ch:Int
 par:Int
 nm:List UInt8
 rk:Nat
 deriving DecidableEq
def l8 (m:Mv):Key:=⟨m.c,m.r,m.ch,m.par,m.nm.toList,uf m.rk⟩
def ab1 (l:List Mv):Prop:= ∀m∈l,m.rk < 2 ^ 64
theorem KQ {a b:Nat} (ha:a < 2 ^ 64) (hb:b < 2 ^ 64):lQ (.flt .f64 a) (.flt .f64 b)=some [.bool (decide (uf a=uf b))]:=by
 unfold lQ
 simp only [yZ ha,yZ hb,Option.bind_some,ag,nW,dV,fU,Option.map_some,Int.natCast_inj]
theorem UZ (a b:ByteArray):aa .eql (.str a) (.str b)=some (.bool (decide (a.toList=b.toList))):=by
 show some (IV.bool (a.toList==b.toList))=_
 congr 2
 by_cases h:a.toList=b.toList<;>simp [h]
theorem vV {ch par ch' par':Int} {nm nm':ByteArray} {rk rk':Nat} (h:rk < 2 ^ 64) (h':rk' < 2 ^ 64):fp (.int .i64 ch) (.int .i64 par) (.str nm) (.flt .f64 rk) (.int .i64 ch') (.int .i64 par') (.str nm') (.flt .f64 rk')=some [.bool (decide (ch=ch'/\par=par'/\nm.toList=nm'.toList/\uf rk=uf rk'))]:=by
 unfold fp
 simp only [nW,UZ,KQ h h',Option.bind_some,ag,H3,dV,fU,Option.map_some]
 congr 3
 by_cases h1:ch=ch'<;>by_cases h2:par=par'<;>by_cases h3:nm.toList=nm'.toList<;>simp [h1,h2,h3]
theorem F9 {a b:Mv} (h:a.rk < 2 ^ 64) (h':b.rk < 2 ^ 64):kl (.int .i64 a.c) (.int .i64 a.r) (.int .i64 a.par) (.int .i64 a.ch) (.str a.nm) (.flt .f64 a.rk) (.int .i64 b.c) (.int .i64 b.r) (.int .i64 b.par) (.int .i64 b.ch) (.str b.nm) (.flt .f64 b.rk)=some [.bool (decide (l8 a=l8 b))]:=by
 unfold kl l8
 simp only [MK,KN,Fj,Rp,if_true,Option.bind_some,Option.map_some,ag,aC,bV,bw,vV h h',H3,dV,fU]
 congr 3
 by_cases h1:a.c=b.c<;>by_cases h2:a.r=b.r<;>simp [h1,h2,Key.mk.injEq]
def TY (a b:List Mv):Bool:=decide (a.map l8=b.map l8)
theorem any_keys {α β:Type} [DecidableEq β] {g:α->β}: ∀{a b:List α} {k:Nat},a.length=b.length-> ∀{b0:List α},(∀i,b0[k+i]? =b[i]?)->anyI (fun i x=>decide ((b0[i]?).map g≠some (g x))) a k= !decide (a.map g=b.map g)
 | [],[],_,_,_,_=>by simp [anyI]
 | x::a,y::b,k,hl,b0,hb=>by
   have h0:=hb 0
   simp only [Nat.add_zero,List.getElem?_cons_zero] at h0
   simp only [anyI,List.map_cons,List.cons.injEq,h0,Option.map_some,ne_eq,Option.some.injEq]
   rw [any_keys (b:=b) (by simpa using hl) (fun i=>by have:=hb (i+1);rw [show k+1+i=k+(i+1) by omega,this];simp)]
   by_cases h1:g x=g y
   ·have:g y=g x:=h1.symm
    by_cases h2:a.map g=b.map g<;>simp [h1,h2]
   ·have: ¬g y=g x:=fun e=>h1 e.symm
    simp [h1,this]
theorem Ky {a b:List Mv} (ha:a.length < 2 ^ 16) (hfa:ab1 a) (hfb:ab1 b):mo (az a) (az b)=some [.bool (TY a b)]:=by
 unfold mo TY
 simp only [aD,Option.bind_some,vB,List.length_map,aQ]
 by_cases hlen:a.length=b.length
 ·rw [if_neg (by omega)]
  rw [ta (vs0:=[.int .i64 0]) (fun i=>[IV.int .i64 (i:Int)]) (fun i x=>decide ((b[i]?).map l8≠some (l8 x))) 1 [.bool false] 0 [] a rfl (by have:=bc;omega),any_keys hlen (b0:=b) (fun i=>by rw [Nat.zero_add])]
  ·by_cases h:a.map l8=b.map l8<;>simp [h]
  ·intro i x hx
   have hi:i < a.length:=(List.getElem?_eq_some_iff.1 hx).1
   have hy:b[i]? =some (b[i]'(by omega)):=List.getElem?_eq_getElem (by omega)
   generalize b[i]'(by omega)=y at hy
   have hk:=F9 (hfa x (List.mem_of_getElem? hx)) (hfb y (List.mem_of_getElem? hy))
   unfold rC
   simp only [aD,Option.bind_some,ag,aC,bV,bw,eJ,eF,aJ,List.length_map,Int.ofNat_lt,nw hx,nw hy,decide_true,aj,hk,jn,bE,aL (show i < 2 ^ 62 by omega),hy,Option.map_some,if_true]
   by_cases h:l8 x=l8 y
   ·simp [h]
   ·have: ¬l8 y=l8 x:=fun e=>h e.symm
    simp [h,this]
  ·unfold rC
   simp
 ·rw [if_pos (by omega)]
  have: ¬a.map l8=b.map l8:=fun h=>hlen (by have:=congrArg List.length h;simpa using this)
  simp [this]
theorem o5 {f:List IV->Option SR} {vs:List IV} {k:Nat} {o:List IV} (n:Nat) (h:f vs=some (.done k o)):iter (n+1) f vs=some (k,o):=by
 simp only [iter,h,Option.bind_some]
theorem ER {α:Type} {f:List IV->Option SR} (enc:Nat->List IV) (bad:Nat->α->Bool) (kh:Nat) (hit:List IV) (km:Nat) (miss:List IV) (l:List α) (k:Nat) (hk:k<=l.length) (hl:l.length < rounds)
  (hs: ∀i x,k<=i->l[i]? =some x->f (enc i)=some (if bad i x=true then .done kh hit else .next (enc (i+1)))) (he:f (enc l.length)=some (.done km miss)):
  iter rounds f (enc k)=some (if anyI bad (l.drop k) k=true then (kh,hit) else (km,miss)):=by
 have key: ∀(n k:Nat),k<=l.length->l.length - k < n->(∀i x,k<=i->l[i]? =some x->f (enc i)=some (if bad i x=true then .done kh hit else .next (enc (i+1))))->iter n f (enc k)=some (if anyI bad (l.drop k) k=true then (kh,hit) else (km,miss)):=by
  intro n
  induction n with
  | zero=>intro k hk hn;omega
  | succ n ih=>
    intro k hk hn hs
    by_cases h:k=l.length
    ·subst h
     simp only [iter,he,Option.bind_some,List.drop_length,anyI,Bool.false_eq_true,if_false]
    ·have hlt:k < l.length:=by omega
     have hx:l[k]? =some l[k]:=List.getElem?_eq_getElem hlt
     rw [List.drop_eq_getElem_cons hlt]
     simp only [iter,hs k l[k] (Nat.le_refl _) hx,Option.bind_some,anyI]
     by_cases hb:bad k l[k]=true
     ·simp [hb]
     ·simp only [hb,if_false,Bool.false_eq_true,Bool.false_or]
      exact ih (k+1) (by omega) (by omega) fun i x hi hx=>hs i x (by omega) hx
 exact key rounds k hk (by omega) hs
theorem Gn {C:IV->List Nat->List (List IV)->Option (List IV)} {fv:IV} {p:Mv->Bool} {l:List Mv} (hl:l.length < 2 ^ 16) (hC: ∀x∈l,C fv [1] [Tg x]=some [.bool (p x)]):
  bu C (az l) fv=some [.int .i64 (R3 p l)]:=by
 unfold bu
 simp only [aD,Option.bind_some]
 rw [kW (vs0:=[IV.int .i64 0]) (fun i=>[IV.int .i64 (i:Int)]) p 1 (fun i=>[IV.int .i64 (i:Int)]) 0 [] l rfl (by have:=bc;omega)]
 ·unfold R3
  cases l.findIdx? p<;>simp
 ·intro i x hx
  have hi:i < l.length:=(List.getElem?_eq_some_iff.1 hx).1
  have hc:=hC x (List.mem_of_getElem? hx)
  unfold fm
  unfold Tg at hc
  simp only [ag,aC,bV,bw,eJ,eF,aJ,List.length_map,Int.ofNat_lt,nw hx,decide_true,aj,Option.bind_some,hc,bE,aL (show i < 2 ^ 62 by omega),if_true]
  cases p x<;>rfl
 ·unfold fm
  simp
theorem Wf {α:Type} {R:α->α->Bool} {l:List α}:anyI (fun i x=> !R (l.getD (i - 1) x) x) (l.drop 1) 1= !s8 R l:=by
 rw [<-WH]
 cases l with
 | nil=>rfl
 | cons x l=>
   simp only [List.drop_succ_cons,List.drop_zero,anyI,Nat.lt_irrefl,decide_false,Bool.false_and,Bool.false_or]
   have: ∀(m:List α) (k:Nat),0 < k->anyI (fun i y=> !R ((x::l).getD (i - 1) y) y) m k=anyI (fun i y=>decide (0 < i)&& !R ((x::l).getD (i - 1) y) y) m k:=by
    intro m
    induction m with
    | nil=>intro k _;rfl
    | cons y m ih=>intro k hk;simp only [anyI,hk,decide_true,Bool.true_and];rw [ih (k+1) (by omega)]
   exact this l 1 (by omega)
theorem OL {l:List Mv} (hl:l.length < 2 ^ 16):nV (az l)=some [.bool (mayV l)]:=by
 unfold nV mayV
 have hloop:iter rounds (gz (az l)) [.int .i64 1]=some (if (!s8 AO l)=true then (1,[.bool false]) else (0,[])):=by
  by_cases h0:l=[]
  ·subst h0
   have:gz (az []) [.int .i64 1]=some (.done 0 []):=by unfold gz;simp
   exact o5 999999 this
  ·have hpos:1<=l.length:=by cases l with | nil=>exact absurd rfl h0 | cons x l=>simp
   have:=ER (f:=gz (az l)) (fun i=>[IV.int .i64 (i:Int)]) (fun i x=> !AO (l.getD (i - 1) x) x) 1 [.bool false] 0 [] l 1 hpos (by have:=bc;omega) (fun i x hi1 hx=>by
    have hi:i < l.length:=(List.getElem?_eq_some_iff.1 hx).1
    have hp:l[i - 1]? =some (l.getD (i - 1) x):=by
     rw [List.getD_eq_getElem?_getD,List.getElem?_eq_getElem (by omega)];rfl
    unfold gz
    simp only [aD,ag,aC,aJ,List.length_map,Int.ofNat_lt,nw hx,decide_true,aj,Option.bind_some,LC (show i < 2 ^ 62 by omega) (show 0 < i by omega),nw hp,my,jn,bE,aL (show i < 2 ^ 62 by omega),AO,if_true]
    by_cases hb:befB (l.getD (i - 1) x).c (l.getD (i - 1) x).r x.c x.r=true<;>simp only [hb,Bool.not_true,Bool.not_false,if_true,if_false,Bool.false_eq_true]) (by unfold gz;simp)
   rw [Wf] at this
   exact this
 rw [hloop]
 by_cases had:s8 AO l=true
 ·simp only [had,Bool.not_true,Bool.false_eq_true,if_false,Option.bind_some,jO,aD,sB,List.length_map,aQ]
  by_cases h:l.length<=2000
  ·have hle:(l.length:Int)<=2000:=by omega
   unfold bG
   rw [Gn hl (p:=fun m=> !oneV m)]
   ·simp only [hle,if_true,Option.bind_some,ag,sF,ML,dV,fU,Option.map_some,jn,h,decide_true,Bool.true_and,Bool.and_true]
    have:(l.any fun m=> !oneV m)= !l.all oneV:=by rw [List.any_eq_not_all_not];simp only [Bool.not_not]
    rw [this]
    cases l.all oneV<;>rfl
   ·intro x _
    show j4 (.int .i64 x.c) (.int .i64 x.r) (.int .i64 x.par) (.int .i64 x.ch) (.str x.nm) (.flt .f64 x.rk)=_
    unfold j4
    simp [sZ]
  ·have hle: ¬(l.length:Int)<=2000:=by omega
   simp [hle,h]
 ·simp [had]
def UT (c r:Int) (m:Mv):Bool:=decide (m.c=c/\m.r=r)
def R1 (l:List Mv) (m:Mv):Nat:=(l.findIdx? fun x=>befB m.c m.r x.c x.r).getD l.length
def cW (l:List Mv) (m:Mv):List Mv:=if l.any (UT m.c m.r)=true then l else l.take (R1 l m)++[m]++l.drop (R1 l m)
def Wh (l:List Mv) (m:Mv):Nat:=match l.findIdx? (UT m.c m.r) with | some i=>i | none=>R1 l m
def EW (l:List Mv) (m:Mv):Bool:= !l.any (UT m.c m.r)
theorem Mf (l:List Mv) (m:Mv):R1 l m<=l.length:=by
 unfold R1
 cases h:l.findIdx? fun x=>befB m.c m.r x.c x.r with
 | none=>exact Nat.le_refl _
 | some i=>exact Nat.le_of_lt (List.findIdx?_eq_some_iff_getElem.1 h).1
theorem lj (l:List Mv) (m:Mv):(cW l m).length<=l.length+1:=by
 unfold cW
 split
 ·omega
 ·have:=Mf l m;simp;omega
theorem FB {l k:List Mv} (hl:l.length < 2 ^ 20) (hk:k.length < 2 ^ 20):lY 6 56 (az l) (az k)=some (az (l++k)):=by
 simp only [lY]
 rw [if_pos]
 ·simp
 ·refine ⟨by simp;omega,by simp [Tg]⟩
theorem Vq {l:List Mv} (hl:l.length < 2 ^ 16) {i:Nat} (hi:i<=l.length) (m:Mv):cQ (az l) (.int .i64 (i:Int)) (.lst [[.int .i64 m.c,.int .i64 m.r,.int .i64 m.par,.int .i64 m.ch,.str m.nm,.flt .f64 m.rk]])=some [az (l.take i++[m]++l.drop i)]:=by
 unfold cQ
 simp only [oP]
 rw [if_pos]
 ·simp [Tg]
 ·refine ⟨by omega,by simp;omega,by simp;omega,rfl⟩
theorem Xh {l:List Mv} (hl:l.length < 2 ^ 16):dz (az l)=some [az l]:=by
 unfold dz
 simp only [p8]
 rw [if_pos]
 refine ⟨by simp;omega,by simp [Tg]⟩
theorem Uk {C:IV->List Nat->List (List IV)->Option (List IV)} {fv:IV} {p:Mv->Bool} {l:List Mv} {c r:Int} (hl:l.length < 2 ^ 16) (hC: ∀x∈l,C fv [1] [[.int .i64 c,.int .i64 r],Tg x]=some [.bool (p x)]):
  gn C (az l) (.int .i64 c) (.int .i64 r) fv=some [.int .i64 (((l.findIdx? p).getD l.length:Nat):Int)]:=by
 unfold gn
 simp only [aD,Option.bind_some]
 rw [kW (vs0:=[IV.int .i64 0]) (fun i=>[IV.int .i64 (i:Int)]) p 1 (fun i=>[IV.int .i64 (i:Int)]) 0 [] l rfl (by have:=bc;omega)]
 ·cases l.findIdx? p<;>simp
 ·intro i x hx
  have hi:i < l.length:=(List.getElem?_eq_some_iff.1 hx).1
  have hc:=hC x (List.mem_of_getElem? hx)
  unfold rr
  unfold Tg at hc
  simp only [ag,aC,bV,bw,eJ,eF,aJ,List.length_map,Int.ofNat_lt,nw hx,decide_true,aj,Option.bind_some,hc,bE,aL (show i < 2 ^ 62 by omega),if_true]
  cases p x<;>rfl
 ·unfold rr
  simp
theorem og {l:List Mv} (hl:l.length < 2 ^ 16) (m:Mv):eo (az l) (.int .i64 m.c) (.int .i64 m.r) (.int .i64 m.par) (.int .i64 m.ch) (.str m.nm) (.flt .f64 m.rk)=some [az (cW l m),.int .i64 (Wh l m:Int),.bool (EW l m)]:=by
 unfold eo
 rw [Uk hl (p:=UT m.c m.r)]
 ·simp only [Option.bind_some,ag,aD,aJ,List.length_map,Int.ofNat_lt,aQ]
  unfold cW Wh EW
  cases h:l.findIdx? (UT m.c m.r) with
  | some i=>
    obtain ⟨hi,hp,_⟩:=List.findIdx?_eq_some_iff_getElem.1 h
    have hany:l.any (UT m.c m.r)=true:=List.any_eq_true.2 ⟨l[i],List.getElem_mem hi,hp⟩
    simp [hi,hany]
  | none=>
    have hall:=List.findIdx?_eq_none_iff.1 h
    have hany:l.any (UT m.c m.r)=false:=by
     rw [List.any_eq_false];intro x hx;rw [hall x hx];simp
    simp only [Option.getD_none,Nat.lt_irrefl,if_false,hany,Bool.false_eq_true]
    rw [Uk hl (p:=fun x=>befB m.c m.r x.c x.r)]
    ·have:=Vq hl (Mf l m) m
     unfold R1 at this ⊢
     simp only [Option.bind_some,Xh hl,ag,this,Bool.not_false]
    ·intro x _
     show bS (.int .i64 m.c) (.int .i64 m.r) (.int .i64 x.c) (.int .i64 x.r) (.int .i64 x.par) (.int .i64 x.ch) (.str x.nm) (.flt .f64 x.rk)=_
     unfold bS
     simp [my]
 ·intro x _
  show gR (.int .i64 m.c) (.int .i64 m.r) (.int .i64 x.c) (.int .i64 x.r) (.int .i64 x.par) (.int .i64 x.ch) (.str x.nm) (.flt .f64 x.rk)=_
  unfold gR UT
  simp only [KN,Fj,Rp,if_true,Option.bind_some,Option.map_some,Bool.and_true,dV,fU]
  congr 3
  by_cases h1:x.c=m.c<;>by_cases h2:x.r=m.r<;>simp [h1,h2]
def uniV (a b:List Mv):List Mv:=b.foldl cW a
theorem D3: ∀(b a:List Mv),(uniV a b).length<=a.length+b.length
 | [],a=>by simp [uniV]
 | x::b,a=>by
   have h1:=D3 b (cW a x)
   have h2:=lj a x
   simp only [uniV,List.foldl_cons,List.length_cons] at h1 ⊢
   omega
theorem Hz {a b:List Mv} (ha:a.length < 2 ^ 15) (hb:b.length < 2 ^ 15):gV (az a) (az b)=some [az (uniV a b)]:=by
 unfold gV uniV
 simp only [aD,Option.bind_some]
 rw [kU (vs0:=[az a,.int .i64 0]) (fun i (v:List Mv)=>[az v,.int .i64 (i:Int)]) cW 0 (fun v=>[az v]) (fun i v=>v.length<=a.length+i) b a rfl (by have:=bc;omega) (by simp)]
 ·simp
 ·intro i s x hx hI
  have hi:i < b.length:=(List.getElem?_eq_some_iff.1 hx).1
  have:=lj s x
  refine ⟨by omega,?_⟩
  unfold pB
  simp only [ag,aC,bV,bw,eJ,eF,aJ,List.length_map,Int.ofNat_lt,nw hx,decide_true,aj,Option.bind_some,og (show s.length < 2 ^ 16 by omega),aL (show i < 2 ^ 62 by omega)]
 ·intro s _
  unfold pB
  simp
def VR (l:List Mv) (c r:Int):List Mv:=l.filter fun m=>befB c r m.c m.r
theorem fold_filter {α:Type} (p:α->Bool): ∀(l k:List α),l.foldl (fun s x=>if p x=true then s++[x] else s) k=k++l.filter p
 | [],k=>by simp
 | x::l,k=>by
   simp only [List.foldl_cons,List.filter_cons]
   rw [fold_filter]
   split<;>simp
theorem Gu {l:List Mv} (hl:l.length < 2 ^ 16) (c r:Int):jP (az l) (.int .i64 c) (.int .i64 r)=some [az (VR l c r)]:=by
 unfold jP
 simp only [aD,Option.bind_some]
 rw [kU (vs0:=[.lst [],.int .i64 0]) (fun i (v:List Mv)=>[az v,.int .i64 (i:Int)]) (fun s m=>if befB c r m.c m.r=true then s++[m] else s) 0 (fun v=>[az v]) (fun i v=>v.length<=i) l [] rfl (by have:=bc;omega) (by simp)]
 ·rw [fold_filter (fun m:Mv=>befB c r m.c m.r)]
  simp [VR]
 ·intro i s x hx hI
  have hi:i < l.length:=(List.getElem?_eq_some_iff.1 hx).1
  refine ⟨by split;(simp;omega);omega,?_⟩
  have e3:IV.lst [[.int .i64 x.c,.int .i64 x.r,.int .i64 x.par,.int .i64 x.ch,.str x.nm,.flt .f64 x.rk]]=az [x]:=rfl
  unfold o8 bS
  simp only [ag,aC,bV,bw,eJ,eF,aJ,List.length_map,Int.ofNat_lt,nw hx,decide_true,aj,Option.bind_some,my,dV,fU,Option.map_some,bE,aL (show i < 2 ^ 62 by omega),e3,FB (show s.length < 2 ^ 20 by omega) (show [x].length < 2 ^ 20 by simp)]
  cases befB c r x.c x.r<;>rfl
 ·intro s _
  unfold o8
  simp
end Go.AM
namespace Go.AM
theorem ShOK.list_invP {α:Type} {enc:α->List IV} {Q:α->Prop} {L:List Sh} (hinv: ∀e,Typed L e-> ∃x,e=enc x/\Q x) {c:IV} (h:ShOK (.slc L) c): ∃l:List α,c= .lst (l.map enc)/\ ∀x∈l,Q x:=by
 cases h with
 | slc _ es hl h1 h2=>
   have: ∀e∈es,∃x,e=enc x/\Q x:=fun e he=>by
    obtain ⟨i,hi⟩:=List.getElem?_of_mem he
    exact hinv e ⟨h1 e he,fun j s c hs hc=>h2 i j e c s hi hc hs⟩
   have key: ∀(es:List (List IV)),(∀e∈es,∃x,e=enc x/\Q x)-> ∃l:List α,es=l.map enc/\ ∀x∈l,Q x:=by
    intro es
    induction es with
    | nil=>intro _;exact ⟨[],rfl,fun x hx=>by simp at hx⟩
    | cons e es ih=>
      intro h
      obtain ⟨x,rfl,hx⟩:=h e List.mem_cons_self
      obtain ⟨l,rfl,hl⟩:=ih fun e he=>h e (List.mem_cons_of_mem _ he)
      exact ⟨x::l,rfl,fun y hy=>by
       rcases List.mem_cons.1 hy with rfl | hy
       ·exact hx
       ·exact hl y hy⟩
   obtain ⟨l,rfl,hQ⟩:=key es this
   exact ⟨l,rfl,hQ⟩
theorem Qj {c r c' r':Int}:befB c r c' r'=true↔c < c'\/(c=c'/\r < r'):=by
 unfold befB;simp only [Bool.or_eq_true,Bool.and_eq_true,decide_eq_true_eq]
theorem Ic {a b:Mv}:AO a b=true↔a.c < b.c\/(a.c=b.c/\a.r < b.r):=Qj
theorem Gr {a b c:Mv} (h:AO a b=true) (k:AO b c=true):AO a c=true:=by
 rw [Ic] at*;omega
def mA (l:List Mv):Prop:=l.Pairwise fun a b=>AO a b=true
theorem TA {l:List Mv}:s8 AO l=true↔mA l:=by
 rw [AE]
 constructor
 ·intro h
  exact uv (R:=fun a b=>AO a b=true) (fun a b c=>Gr) fun i hi=>h i l[i] l[i+1] (List.getElem?_eq_getElem (by omega)) (List.getElem?_eq_getElem hi)
 ·intro h i x y hx hy
  obtain ⟨h1,rfl⟩:=List.getElem?_eq_some_iff.1 hx
  obtain ⟨h2,rfl⟩:=List.getElem?_eq_some_iff.1 hy
  exact List.pairwise_iff_getElem.1 h i (i+1) h1 h2 (by omega)
def No (m:Mv):List Mv->List Mv
 | []=>[m]
 | x::l=>if AO m x=true then m::x::l else x::No m l
theorem Um (m:Mv): ∀l:List Mv,l.take (R1 l m)++[m]++l.drop (R1 l m)=No m l
 | []=>rfl
 | x::l=>by
   have ih:=Um m l
   unfold R1 at ih ⊢
   simp only [List.findIdx?_cons,No]
   by_cases h:AO m x=true
   ·have h':befB m.c m.r x.c x.r=true:=h
    simp [h,h']
   ·have h': ¬befB m.c m.r x.c x.r=true:=h
    simp only [h',if_false,h]
    rw [<-ih]
    cases l.findIdx? (fun x=>befB m.c m.r x.c x.r)<;>simp
theorem Xd {l:List Mv} {m:Mv}:cW l m=if l.any (UT m.c m.r)=true then l else No m l:=by
 unfold cW;rw [Um]
theorem F3 {m:Mv}: ∀{l:List Mv} {x:Mv},x∈No m l↔x=m\/x∈l
 | [],x=>by simp [No]
 | y::l,x=>by
   simp only [No]
   split
   ·simp
   ·simp only [List.mem_cons,F3]
    constructor
    ·rintro (h | h | h)<;>simp [h]
    ·rintro (h | h | h)<;>simp [h]
theorem D9 {m:Mv}: ∀{l:List Mv},mA l->(∀x∈l,¬(x.c=m.c/\x.r=m.r))->mA (No m l)
 | [],_,_=>List.pairwise_singleton _ _
 | x::l,h,hn=>by
   obtain ⟨h1,h2⟩:=List.pairwise_cons.1 h
   have hx:=hn x List.mem_cons_self
   simp only [No]
   split
   ·rename_i hb
    refine List.pairwise_cons.2 ⟨fun y hy=> ?_,h⟩
    rcases List.mem_cons.1 hy with rfl | hy
    ·exact hb
    ·exact Gr hb (h1 y hy)
   ·rename_i hb
    refine List.pairwise_cons.2 ⟨fun y hy=> ?_,D9 h2 fun y hy=>hn y (List.mem_cons_of_mem _ hy)⟩
    rcases F3.1 hy with rfl | hy
    ·rw [Ic] at hb ⊢;omega
    ·exact h1 y hy
theorem Zw {l:List Mv} {c r:Int}:l.any (UT c r)=true↔ ∃x∈l,x.c=c/\x.r=r:=by
 rw [List.any_eq_true]
 simp only [UT,decide_eq_true_eq]
theorem DZ {l:List Mv} {m:Mv} (h:mA l):mA (cW l m):=by
 rw [Xd]
 split
 ·exact h
 ·rename_i hn
  exact D9 h fun x hx e=>hn (Zw.2 ⟨x,hx,e⟩)
theorem rQ {l:List Mv} {m x:Mv} (h:x∈cW l m):x=m\/x∈l:=by
 rw [Xd] at h
 split at h
 ·exact .inr h
 ·exact F3.1 h
theorem Ea: ∀{b a:List Mv},mA a->mA (uniV a b)
 | [],a,h=>h
 | x::b,a,h=>Ea (b:=b) (DZ h)
theorem Ry: ∀{b a:List Mv} {x:Mv},x∈uniV a b->x∈a\/x∈b
 | [],a,x,h=> .inl h
 | y::b,a,x,h=>by
   rcases Ry (b:=b) h with h | h
   ·rcases rQ h with rfl | h
    ·exact .inr List.mem_cons_self
    ·exact .inl h
   ·exact .inr (List.mem_cons_of_mem _ h)
theorem tC {l:List Mv}:mayV l=true↔l.length<=2000/\(∀m∈l,oneV m=true)/\mA l:=by
 unfold mayV
 simp only [Bool.and_eq_true,decide_eq_true_eq,List.all_eq_true,TA]
end Go.AM
namespace Go.AM
end Go.AM
