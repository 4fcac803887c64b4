/- Replicas, plainly: what may be; add, merge, prune; what they keep. No program is named here. -/
import Derived.Test.YtgoenohknokcmaaGreatTs
open Option renaming bind_some->ab
open Bool renaming and_eq_true->ad,false_eq_true->a1,true_and->bb
open List renaming length_take->ao,mem_of_mem_take->aB,getElem?_eq_some_iff->a2,all_eq_true->a5,length_map->a6,mem_cons_of_mem->a7,mem_cons_self->a8,length_cons->bd,mem_filter->bf
set_option linter.unusedVariables false
set_option linter.unusedSimpArgs false
namespace Go.AM
structure Rep where
 base:List Rw
 fc:Int
 fr:Int
 log:List Mv
 mks:List Mark
def kidsK (l:List Rw) (m:List Mv):List Int:=(m.map (·.ch)).foldl GR ((l.map (·.ch)).foldl GR [])
def knownB (v:List Mark) (c r:Int):Bool:=QK c r&&decide (c<=getM v r)
def abl (r:Rep):Bool:=r.log.all λm=>befB r.fc r.fr m.c m.r
def TT (r:Rep):Bool:=
 mayR r.base&&(mayV r.log&&(XS r.mks&&(Aa (ofM r.log) r.mks&&((decide (r.fc=0/\r.fr=0)||knownB r.mks r.fc r.fr)&&(abl r&&decide ((kidsK r.base r.log).length<=2000))))))
structure MayF (r:Rep):Prop where
 tree:mayR r.base=true
 moves:mayV r.log=true
 marks:MayP r.mks
 cover: ∀m∈r.log,m.c<=getM r.mks m.r
 floor:(r.fc=0/\r.fr=0)\/knownB r.mks r.fc r.fr=true
 after: ∀m∈r.log,befB r.fc r.fr m.c m.r=true
 few:(kidsK r.base r.log).length<=2000
theorem P7 {c r:Int}:QK c r=true↔1<=c/\c<=4611686018427387903/\1<=r/\r<=255:=by
 unfold QK;simp only [ad,decide_eq_true_eq];omega
theorem qd {m:Mv} (h:oneV m=true):1<=m.c/\m.c<=4611686018427387903/\1<=m.r/\m.r<=255:=by
 unfold oneV at h;simp only [ad] at h;exact P7.1 h.1
theorem Sf (r:Int): ∀(l:List Mv) (n k:Int),supV r l n<=k↔n<=k/\ ∀m∈l,m.r=r->m.c<=k
 | [],n,k=>by simp [supV]
 | x::l,n,k=>by
   have ih:=Sf r l (if r=x.r then max n x.c else n) k
   have e:supV r (x::l) n=supV r l (if r=x.r then max n x.c else n):=rfl
   rw [e,ih]
   simp only [List.mem_cons,forall_eq_or_imp]
   by_cases h:r=x.r
   ·subst h
    simp only [if_true,forall_const]
    constructor
    ·rintro ⟨h1,h2⟩;exact ⟨by omega,by omega,h2⟩
    ·rintro ⟨h1,h2,a⟩;exact ⟨by omega,a⟩
   ·have h': ¬x.r=r:= λe=>h e.symm
    simp only [if_neg h,h',false_implies,true_and]
theorem Yd (l:List Mv) (r:Int):getM (ofM l) r=supV r l 0:=by
 unfold ofM
 rw [Lv]
 rfl
theorem PQ {l:List Mv} {v:List Mark} (hl: ∀m∈l,oneV m=true) (hv:MayP v):Aa (ofM l) v=true↔ ∀m∈l,m.c<=getM v m.r:=by
 have hm:MayP (ofM l):=Qb MayP.nil λm hm=>qd (hl m hm)
 rw [XG hm hv.nonneg]
 constructor
 ·intro h m hm
  have:=h m.r
  rw [Yd,Sf] at this
  exact this.2 m hm rfl
 ·intro h r
  rw [Yd,Sf]
  exact ⟨hv.nonneg r,λm hm e=>e▸h m hm⟩
theorem o7 {r:Rep}:TT r=true↔MayF r:=by
 unfold TT
 simp only [ad,Bool.or_eq_true,decide_eq_true_eq]
 constructor
 ·rintro ⟨h1,h2,a,b,c,d,e⟩
  have f:=FR.1 a
  exact ⟨h1,h2,f,(PQ (jL.1 h2).2.1 f).1 b,c,λm hm=>a5.1 d m hm,e⟩
 ·rintro ⟨h1,h2,a,b,c,d,e⟩
  exact ⟨h1,h2,FR.2 a,(PQ (jL.1 h2).2.1 a).2 b,c,a5.2 d,e⟩
def addF (r:Rep) (m:Mv):Rep×Bool×Int:=
 if (TT r&&oneV m)=true then
  if befB r.fc r.fr m.c m.r=true then
   if E7 r.log m=true then (⟨r.base,r.fc,r.fr,vu r.log m,kH r.mks m.c m.r⟩,true,0) else (r,false,0)
  else (r,false,9)
 else (r,false,1)
def pruneF (r:Rep) (c t:Int):Rep×Int:=
 if (TT r&&knownB r.mks c t)=true then
  if befB r.fc r.fr c t=true then (⟨allV r.base (r.log.take (r.log.length - (oy r.log c t).length)),c,t,oy r.log c t,r.mks⟩,0) else (r,0)
 else (r,1)
theorem yc: ∀(xs K:List Int),(xs.foldl GR K).length<=K.length+xs.length
 | [],K=>by simp
 | x::xs,K=>by
   have h1:=yc xs (GR K x)
   have h2:(GR K x).length<=K.length+1:=by unfold GR;split<;>simp
   simp only [List.foldl_cons,bd];omega
theorem xN (l:List Rw) (m:List Mv):(kidsK l m).length<=l.length+m.length:=by
 unfold kidsK
 have h1:=yc (m.map (·.ch)) ((l.map (·.ch)).foldl GR [])
 have h2:=yc (l.map (·.ch)) []
 simp at h1 h2;omega
theorem Vd (c r:Int):befB c r c r=false:=by
 cases h:befB c r c r with
 | false=>rfl
 | true=>rw [gO] at h;omega
theorem MayF.add {r:Rep} (h:MayF r) {m:Mv} (hm:oneV m=true) (hb:befB r.fc r.fr m.c m.r=true) (hl:r.log.length < 1000) (i:r.base.length < 1000):MayF ⟨r.base,r.fc,r.fr,vu r.log m,kH r.mks m.c m.r⟩:=by
 have d:=qd hm
 obtain ⟨j,f,g⟩:=jL.1 h.moves
 have hlen:=vb r.log m
 have b: ∀x,getM r.mks x<=getM (kH r.mks m.c m.r) x:= λx=>by
  rw [DM];split
  ·rename_i e;rw [e];omega
  ·omega
 refine ⟨h.tree,jL.2 ⟨by dsimp only;omega,λx a=> ?_,V8 g⟩,h.marks.raise ⟨d.2.2.1,d.2.2.2⟩ d.2.1,λx a=> ?_,?_,λx a=> ?_,?_⟩
 ·rcases Eu a with rfl | a
  ·exact hm
  ·exact f x a
 ·rcases Eu a with rfl | a
  ·dsimp only;rw [DM,if_pos rfl];omega
  ·exact Int.le_trans (h.cover x a) (b x.r)
 ·rcases h.floor with hf | hf
  ·exact .inl hf
  ·refine .inr ?_
   unfold knownB at hf ⊢
   simp only [ad,decide_eq_true_eq] at hf ⊢
   exact ⟨hf.1,Int.le_trans hf.2 (b _)⟩
 ·rcases Eu a with rfl | a
  ·exact hb
  ·exact h.after x a
 ·have:=xN r.base (vu r.log m)
  dsimp only;omega
theorem Av {l:List Mv} {c r:Int} {x:Mv}:x∈oy l c r↔x∈l/\befB c r x.c x.r=true:=by
 unfold oy;rw [bf]
theorem uY (l:List Mv) (c r:Int):(oy l c r).length<=l.length:=List.length_filter_le _ _
theorem UI: ∀{ms:List Mv} {l:List Rw},mayR l=true->(∀m∈ms,oneV m=true)->l.length+ms.length<=2000->mayR (allV l ms)=true
 | [],l,h,_,_=>h
 | m::ms,l,h,hm,hl=>by
   have dl:=xB l m
   simp only [bd] at hl
   have a:mayR (Sm l m)=true:=by
    cases hb:Oj l m with
    | true=>rw [ac2 hb];exact h
    | false=>exact acT h (hm m a8) hb (by omega)
   exact UI (ms:=ms) a (λx b=>hm x (a7 _ b)) (by omega)
theorem MayF.prune {r:Rep} (h:MayF r) {c t:Int} (hk:knownB r.mks c t=true) (hl:r.log.length < 800) (f:r.base.length < 800):MayF ⟨allV r.base (r.log.take (r.log.length - (oy r.log c t).length)),c,t,oy r.log c t,r.mks⟩:=by
 obtain ⟨g,b,e⟩:=jL.1 h.moves
 have hlen:=uY r.log c t
 have d:=uI (r.log.take (r.log.length - (oy r.log c t).length)) r.base
 simp only [ao] at d
 refine ⟨UI h.tree (λx a=>b x (aB a)) (by simp only [ao];omega),jL.2 ⟨by dsimp only;omega,λx a=>b x (Av.1 a).1,?_⟩,h.marks,λx a=>h.cover x (Av.1 a).1,.inr hk,λx a=>(Av.1 a).2,?_⟩
 ·exact e.sublist List.filter_sublist
 ·have:=xN (allV r.base (r.log.take (r.log.length - (oy r.log c t).length))) (oy r.log c t)
  dsimp only;omega
end Go.AM
namespace Go.AM
theorem acY (a b c d:Int):UC .eql [.i,.i] [.int .i64 a,.int .i64 b] [.int .i64 c,.int .i64 d]=some (.bool (decide (a=c/\b=d))):=by
 simp [UC,MB,XH]
 by_cases h1:a=c<;>by_cases h2:b=d<;>simp [h1,h2]
theorem og {f:List IV->Option SR} {vs vs':List IV} (n:Nat) (h:f vs=some (.next vs')):iter (n+1) f vs=iter n f vs':=by
 rw [iter,h];rfl
structure SmF (n:Nat) (r:Rep):Prop where
 base:r.base.length<=n
 log:r.log.length<=n
 mks:r.mks.length<=n
structure OKF (r:Rep):Prop where
 base:OKl r.base
 log: ∀m∈r.log,OKm m
def YM (r:Rep) (l:List IV):List IV:=cQ r.base:: .int .i64 r.fc:: .int .i64 r.fr::aZ r.log::aL r.mks::l
theorem AJ {v:List Mark} (hv:v.length < 2 ^ 16) (c r:Int):kj (aL v) (.int .i64 c) (.int .i64 r)=some [.bool (knownB v c r)]:=by
 unfold kj knownB QK
 simp only [de,jU,ab,bj,xe hv,af]
 by_cases h1:1<=c<;>by_cases h2:c<=4611686018427387903<;>by_cases a:1<=r<;>by_cases b:r<=255<;>simp [h1,h2,a,b]
theorem QH {α:Type} {f:List IV->Option SR} {l:List α} {g:α->Int} (hl:l.length < 2 ^ 16) (K:List Int)
  (h1: ∀(i:Nat) (x:α) (K:List Int),l[i]? =some x->f [eK K,.int .i64 (i:Int)]=some (.next [eK (GR K (g x)),.int .i64 ((i+1:Nat):Int)])) (h2: ∀K:List Int,f [eK K,.int .i64 (l.length:Int)]=some (.done 0 [eK K])):
  iter rounds f [eK K,.int .i64 0]=some (0,[eK ((l.map g).foldl GR K)]):=by
 rw [kC (vs0:=[eK K,.int .i64 0]) (λi (s:List Int)=>[eK s,.int .i64 (i:Int)]) (λK (x:α)=>GR K (g x)) 0 (λs=>[eK s]) (λ_ _=>True) l K rfl (by have:=aO;omega) trivial]
 ·rw [List.foldl_map]
 ·intro i s x a _;exact ⟨trivial,h1 i x s a⟩
 ·intro s _;exact h2 s
theorem uP {l:List Rw} {m:List Mv} (hl:l.length < 2 ^ 16) (hm:m.length < 2 ^ 16) (a b c:IV):fI (cQ l) a b (aZ m) c=some [eK (kidsK l m)]:=by
 unfold fI kidsK
 have e0:(IV.map [])=eK []:=rfl
 simp only [aw,ab,a6,e0]
 rw [QH (l:=l) (g:=(·.ch)) hl []]
 ·simp only [ab,aN,af]
  rw [QH (l:=m) (g:=(·.ch)) hm]
  ·simp only [ab,aN,af]
  ·intro i x K d
   have hi:i < m.length:=(a2.1 d).1
   unfold px
   simp only [af,ai,ay,az,al,Int.ofNat_lt,hi,AY d,decide_true,ah,ab,UD,au (show i < 2 ^ 62 by omega)]
  ·intro K
   unfold px
   simp
 ·intro i x K d
  have hi:i < l.length:=(a2.1 d).1
  unfold pd
  simp only [af,ai,al,Int.ofNat_lt,hi,P9 d,decide_true,ah,ab,UD,au (show i < 2 ^ 62 by omega)]
 ·intro K
  unfold pd
  simp
theorem Xx (l:List Mv):(ofM l).length<=l.length:=by
 have:=E1 l []
 simpa [ofM] using this
theorem adb (r:Rep):decide ((oy r.log r.fc r.fr).length=r.log.length)=abl r:=by
 unfold abl oy
 rw [Bool.eq_iff_iff,decide_eq_true_eq,a5]
 exact List.length_filter_eq_length_iff
theorem sg {r:Rep} (h:SmF 2000 r) (p:OKF r):jr (cQ r.base) (.int .i64 r.fc) (.int .i64 r.fr) (aZ r.log) (aL r.mks)=some [.bool (TT r)]:=by
 have hb:=h.base
 have k:=h.log
 have o:=h.mks
 have q:=Xx r.log
 have hs:=uY r.log r.fc r.fr
 have c1:nf (.ptr [cQ r.base,.int .i64 r.fc,.int .i64 r.fr,aZ r.log,aL r.mks] 0)=some [.bool (mayR r.base&&(mayV r.log&&XS r.mks))]:=by
  unfold nf
  simp [gr,iI,Ah (l:=r.base) (by omega) p.base,xo (l:=r.log) (by omega),xK (v:=r.mks) (by omega),dc]
  cases mayR r.base<;>cases mayV r.log<;>simp
 have c2:nj (.ptr [cQ r.base,.int .i64 r.fc,.int .i64 r.fr,aZ r.log,aL r.mks] 0)=some [.bool (Aa (ofM r.log) r.mks)]:=by
  unfold nj
  simp [gr,iI,Wk (l:=r.log) (by omega),KF (a:=ofM r.log) (b:=r.mks) (by omega) (by omega)]
 have c3:mS (.ptr [cQ r.base,.int .i64 r.fc,.int .i64 r.fr,aZ r.log,aL r.mks] 0)=some [.bool (decide (r.fc=0/\r.fr=0)||knownB r.mks r.fc r.fr)]:=by
  unfold mS
  simp [gr,iI,yA,acY,dc,AJ (v:=r.mks) (by omega)]
  by_cases e:r.fc=0/\r.fr=0<;>simp [e]
 have c4:nB (.ptr [cQ r.base,.int .i64 r.fc,.int .i64 r.fr,aZ r.log,aL r.mks] 0)=some [.bool (abl r)]:=by
  unfold nB
  simp [gr,iI,yA,Aw (l:=r.log) (by omega)]
  rw [<-adb r]
  congr 1
  apply propext
  omega
 have c5:mU (.ptr [cQ r.base,.int .i64 r.fc,.int .i64 r.fr,aZ r.log,aL r.mks] 0)=some [.bool (decide ((kidsK r.base r.log).length<=2000))]:=by
  unfold mU
  simp [yA,uP (l:=r.base) (m:=r.log) (by omega) (by omega),YF]
  omega
 have step: ∀(i:Nat) (b:Bool) (c:IV),i < 5->cV (.lst [[(.clo (.func ng) [(.ptr [cQ r.base,.int .i64 r.fc,.int .i64 r.fr,aZ r.log,aL r.mks] 0)])],[(.clo (.func nk) [(.ptr [cQ r.base,.int .i64 r.fc,.int .i64 r.fr,aZ r.log,aL r.mks] 0)])],[(.clo (.func m4) [(.ptr [cQ r.base,.int .i64 r.fc,.int .i64 r.fr,aZ r.log,aL r.mks] 0)])],[(.clo (.func nq) [(.ptr [cQ r.base,.int .i64 r.fc,.int .i64 r.fr,aZ r.log,aL r.mks] 0)])],[(.clo (.func mT) [(.ptr [cQ r.base,.int .i64 r.fc,.int .i64 r.fr,aZ r.log,aL r.mks] 0)])]]) i 0=some c->dU c [1] []=some [.bool b]->
   ml (cQ r.base) (.int .i64 r.fc) (.int .i64 r.fr) (aZ r.log) (aL r.mks) [.int .i64 (i:Int)]=some (if b=true then .next [.int .i64 ((i+1:Nat):Int)] else .done 1 [.bool false]):=by
  intro i b c hi h1 h2
  have g:bP 5 (.int .i64 (i:Int))=some i:=eb hi
  have d:(i:Int) < ((5:Nat):Int):=by omega
  unfold ml
  simp only [af,al,d,decide_true,ah,ab,g,h1,h2,aW,dc,au (show i < 2 ^ 62 by omega)]
  cases b<;>simp
 have s:=step 0 _ _ (by decide) rfl (show dU _ _ _=_ from c1)
 have t:=step 1 _ _ (by decide) rfl (show dU _ _ _=_ from c2)
 have u:=step 2 _ _ (by decide) rfl (show dU _ _ _=_ from c3)
 have w:=step 3 _ _ (by decide) rfl (show dU _ _ _=_ from c4)
 have s4:=step 4 _ _ (by decide) rfl (show dU _ _ _=_ from c5)
 have x:ml (cQ r.base) (.int .i64 r.fc) (.int .i64 r.fr) (aZ r.log) (aL r.mks) [.int .i64 ((5:Nat):Int)]=some (.done 0 []):=by
  unfold ml
  simp
 unfold jr TT
 obtain ⟨N,j⟩: ∃N,rounds=N+1+1+1+1+1+1:=⟨999994,rfl⟩
 rw [j,show (IV.int .i64 0)=IV.int .i64 ((0:Nat):Int) from rfl]
 generalize ml (cQ r.base) (.int .i64 r.fc) (.int .i64 r.fr) (aZ r.log) (aL r.mks)=f at*
 have done: ∀(n i:Nat) (b:Bool),f [.int .i64 (i:Int)]=some (if b=true then .next [.int .i64 ((i+1:Nat):Int)] else .done 1 [.bool false])->iter (n+1) f [.int .i64 (i:Int)]=if b=true then iter n f [.int .i64 ((i+1:Nat):Int)] else some (1,[.bool false]):=by
  intro n i b h
  cases b with
  | true=>rw [og n h,if_pos rfl]
  | false=>rw [gB n h];rfl
 rw [done _ 0 _ s,done _ 1 _ t,done _ 2 _ u,done _ 3 _ w,done _ 4 _ s4,gB _ x]
 cases mayR r.base<;>cases mayV r.log<;>cases XS r.mks<;>cases Aa (ofM r.log) r.mks<;>cases (decide (r.fc=0/\r.fr=0)||knownB r.mks r.fc r.fr)<;>cases abl r<;>cases decide ((kidsK r.base r.log).length<=2000)<;>rfl
end Go.AM
namespace Go.AM
theorem SmF.mono {n m:Nat} {r:Rep} (h:SmF n r) (a:n<=m):SmF m r:=⟨Nat.le_trans h.base a,Nat.le_trans h.log a,Nat.le_trans h.mks a⟩
theorem SmF.add {n:Nat} {r:Rep} (h:SmF n r) (m:Mv):SmF (n+1) (addF r m).1:=by
 have h1:=h.base
 have h2:=h.log
 have a:=h.mks
 have b:=vb r.log m
 have d:=vF (c:=m.c) (r:=m.r) r.mks
 unfold addF
 split
 ·split
  ·split
   ·exact ⟨by dsimp only;omega,by dsimp only;omega,by dsimp only;omega⟩
   ·exact h.mono (by omega)
  ·exact h.mono (by omega)
 ·exact h.mono (by omega)
theorem aaj {l:List Mv} {m:Mv} (h: ∀x∈l,OKm x) (hm:OKm m): ∀x∈vu l m,OKm x:= λx a=>by
 rcases Eu a with rfl | a
 ·exact hm
 ·exact h x a
theorem OKF.add {r:Rep} (h:OKF r) {m:Mv} (hm:OKm m):OKF (addF r m).1:=by
 unfold addF
 split
 ·split
  ·split
   ·exact ⟨h.base,aaj h.log hm⟩
   ·exact h
  ·exact h
 ·exact h
theorem OKF.prune {r:Rep} (h:OKF r) (c t:Int):OKF (pruneF r c t).1:=by
 unfold pruneF
 split
 ·split
  ·exact ⟨OKl.allV h.base λm hm=>h.log m (aB hm),λm hm=>h.log m (Av.1 hm).1⟩
  ·exact h
 ·exact h
theorem Fz {r:Rep} (h:SmF 900 r) (d:OKF r) {m:Mv} (hm:OKm m):lH (cQ r.base) (.int .i64 r.fc) (.int .i64 r.fr) (aZ r.log) (aL r.mks) (.int .i64 m.c) (.int .i64 m.r) (.int .i64 m.par) (.int .i64 m.ch) (.str m.nm) (.flt .f64 m.rk)=
  some [cQ (addF r m).1.base,.int .i64 (addF r m).1.fc,.int .i64 (addF r m).1.fr,aZ (addF r m).1.log,aL (addF r m).1.mks,.bool (addF r m).2.1,.int .i64 (addF r m).2.2]:=by
 have hb:=h.base
 have a:=h.log
 have b:=h.mks
 have hk:=xN r.base r.log
 have e: ¬((r.log.length:Int)=2000):=by omega
 have f: ¬(((kidsK r.base r.log).length:Int)=2000):=by omega
 unfold lH addF
 simp only [sg (h.mono (by omega)) d,xw,lx,yC (l:=r.log) (show r.log.length < 2 ^ 16 by omega),uP (l:=r.base) (m:=r.log) (show r.base.length < 2 ^ 16 by omega) (show r.log.length < 2 ^ 16 by omega),zX (l:=r.mks) (show r.mks.length < 2 ^ 16 by omega),ab,af,ai,ay,aW,LU,dc,aw,a6,YF,aaM,dI,bj,e,f,if_false,decide_false,ag]
 cases TT r<;>cases oneV m<;>cases befB r.fc r.fr m.c m.r<;>cases E7 r.log m<;>simp
theorem qD {a b:Nat} (h:b<=a) (c:a < 2 ^ 60):aa .sub (.int .i64 (a:Int)) (.int .i64 (b:Int))=some (.int .i64 ((a - b:Nat):Int)):=by
 rw [pC (by omega) (by omega)]
 congr 2;omega
theorem K4 {r:Rep} (h:SmF 2000 r) (b:OKF r) (c t:Int):kr (cQ r.base) (.int .i64 r.fc) (.int .i64 r.fr) (aZ r.log) (aL r.mks) (.int .i64 c) (.int .i64 t)=
  some [cQ (pruneF r c t).1.base,.int .i64 (pruneF r c t).1.fc,.int .i64 (pruneF r c t).1.fr,aZ (pruneF r c t).1.log,aL (pruneF r c t).1.mks,.int .i64 (pruneF r c t).2]:=by
 have hb:=h.base
 have d:=h.log
 have e:=h.mks
 have hs:=uY r.log c t
 have a:=Bj (l:=r.base) (ms:=r.log.take (r.log.length - (oy r.log c t).length)) (by simp only [ao];omega) b.base λm hm=>b.log m (aB hm)
 unfold kr pruneF
 simp only [sg h b,AJ (v:=r.mks) (show r.mks.length < 2 ^ 16 by omega),lx,Aw (l:=r.log) (show r.log.length < 2 ^ 16 by omega),ab,af,aW,LU,dc,aw,a6,qD hs (by omega),abw (l:=r.log) (Nat.sub_le _ _),a]
 cases TT r<;>cases knownB r.mks c t<;>cases befB r.fc r.fr c t<;>simp
theorem Nu {r:Rep} (h:SmF 2000 r) (d:OKF r) (a b c:IV):mg (cQ r.base) a b (aZ r.log) c=some [cQ (allV r.base r.log)]:=by
 have hb:=h.base
 have e:=h.log
 unfold mg
 simp only [Bj (l:=r.base) (ms:=r.log) (by omega) d.base d.log,ab,af]
end Go.AM
namespace Go.AM
end Go.AM
namespace Go.AM
theorem aaX {r:Rep} {m:Mv} (h:(addF r m).2.2≠0):(addF r m).2.1=false/\(addF r m).1=r:=by
 unfold addF at h ⊢
 split
 ·rename_i h1
  rw [if_pos h1] at h
  split
  ·rename_i h2
   rw [if_pos h2] at h
   split
   ·rename_i a;rw [if_pos a] at h;exact absurd rfl h
   ·exact ⟨rfl,rfl⟩
  ·exact ⟨rfl,rfl⟩
 ·exact ⟨rfl,rfl⟩
theorem F0 {r:Rep} (h:MayF r) (hs:SmF 700 r) (m:Mv):MayF (addF r m).1:=by
 have h1:=hs.base
 have h2:=hs.log
 unfold addF
 split
 ·rename_i h1
  simp only [ad] at h1
  split
  ·rename_i h2
   split
   ·exact h.add h1.2 h2 (by omega) (by omega)
   ·exact h
  ·exact h
 ·exact h
theorem Vk {r:Rep} (h:MayF r) (m:Mv):(addF r m).2.2=if oneV m=true then (if befB r.fc r.fr m.c m.r=true then 0 else 9) else 1:=by
 unfold addF
 rw [o7.2 h,bb]
 cases oneV m<;>cases befB r.fc r.fr m.c m.r<;>cases E7 r.log m<;>rfl
theorem Xv {r:Rep} {c t:Int} (h:(pruneF r c t).2≠0):(pruneF r c t).1=r:=by
 unfold pruneF at h ⊢
 split
 ·rename_i h1
  rw [if_pos h1] at h
  split
  ·rename_i h2;rw [if_pos h2] at h;exact absurd rfl h
  ·rfl
 ·rfl
theorem Np {r:Rep} (h:MayF r) (hs:SmF 700 r) (c t:Int):MayF (pruneF r c t).1:=by
 have h1:=hs.base
 have h2:=hs.log
 unfold pruneF
 split
 ·rename_i h1
  simp only [ad] at h1
  split
  ·exact h.prune h1.2 (by omega) (by omega)
  ·exact h
 ·exact h
theorem Xz {r:Rep} (h:MayF r) (c t:Int):(pruneF r c t).2=if knownB r.mks c t=true then 0 else 1:=by
 unfold pruneF
 rw [o7.2 h,bb]
 cases knownB r.mks c t<;>cases befB r.fc r.fr c t<;>rfl
theorem WK (r:Rep) (c t:Int):(pruneF r c t).1.mks=r.mks:=by
 unfold pruneF
 split
 ·split<;>rfl
 ·rfl
theorem LZ (r:Rep) (m:Mv):(addF r m).1.fc=r.fc/\(addF r m).1.fr=r.fr/\(addF r m).1.base=r.base:=by
 unfold addF
 split
 ·split
  ·split<;>exact ⟨rfl,rfl,rfl⟩
  ·exact ⟨rfl,rfl,rfl⟩
 ·exact ⟨rfl,rfl,rfl⟩
theorem Q4 (r:Rep) (c t:Int):befB (pruneF r c t).1.fc (pruneF r c t).1.fr r.fc r.fr=false:=by
 unfold pruneF
 split
 ·split
  ·rename_i h
   cases hh:befB c t r.fc r.fr with
   | false=>rfl
   | true=>rw [gO] at h hh;omega
  ·exact Vd _ _
 ·exact Vd _ _
def Vo (l:List Mv) (c t:Int):List Mv:=l.take (l.length - (oy l c t).length)
theorem Yq {l:List Mv} (h:sf l) (c t:Int):Vo l c t++oy l c t=l:=by
 have:=(LM h c t).1
 unfold Vo
 conv=>lhs;rhs;rw [this]
 exact List.take_append_drop _ _
theorem W9 {l:List Mv} (h:sf l) (c t:Int):Vo l c t=l.filter λm=> !befB c t m.c m.r:=by
 have h1: ∀x∈Vo l c t,befB c t x.c x.r=false:=by
  intro x a
  unfold Vo at a
  obtain ⟨i,hi,rfl⟩:=List.mem_iff_getElem.1 a
  simp only [ao] at hi
  have h2:=(LM h c t).2 i l[i] (List.getElem?_eq_getElem (by omega))
  simp only [List.getElem_take]
  rw [h2]
  simp;omega
 have h2: ∀x∈oy l c t,befB c t x.c x.r=true:= λx a=>(Av.1 a).2
 conv=>rhs;rw [<-Yq h c t]
 rw [List.filter_append,List.filter_eq_self.2 (λx a=>by simp [h1 x a]),List.filter_eq_nil_iff.2 (λx a=>by simp [h2 x a]),List.append_nil]
theorem YW {r:Rep} (h:MayF r) {c t:Int} (hk:knownB r.mks c t=true):pruneF r c t=if befB r.fc r.fr c t=true then (⟨allV r.base (Vo r.log c t),c,t,oy r.log c t,r.mks⟩,0) else (r,0):=by
 unfold pruneF Vo
 rw [o7.2 h,hk]
 rfl
end Go.AM
namespace Go.AM
theorem Ts {m:Mv}: ∀{E:List Mv},(∀x∈E,Aq m x=false)-> ∀L:List Mv,I8 m (E++L)=E++I8 m L
 | [],_,L=>rfl
 | x::E,h,L=>by
   have a:=h x a8
   simp only [List.cons_append,I8,a,a1,if_false]
   rw [Ts λy b=>h y (a7 _ b)]
theorem acg {E L:List Mv} {m:Mv} (h: ∀x∈E,¬(x.c=m.c/\x.r=m.r)):(E++L).any (Tm m.c m.r)=L.any (Tm m.c m.r):=by
 rw [List.any_append]
 have:E.any (Tm m.c m.r)=false:=by
  cases he:E.any (Tm m.c m.r) with
  | false=>rfl
  | true=>obtain ⟨x,a,h1⟩:=aal.1 he;exact absurd h1 (h x a)
 rw [this,Bool.false_or]
structure TwoF (E:List Mv) (a b:Rep):Prop where
 log:a.log=E++b.log
 base:b.base=allV a.base E
 mks:a.mks=b.mks
 may1:MayF a
 may2:MayF b
 early: ∀x∈E,befB b.fc b.fr x.c x.r=false
 floor:befB b.fc b.fr a.fc a.fr=false
theorem TwoF.tree {E:List Mv} {a b:Rep} (h:TwoF E a b):allV a.base a.log=allV b.base b.log:=by
 rw [h.log,h.base,IB]
theorem TwoF.bef {E:List Mv} {a b:Rep} (h:TwoF E a b) {m:Mv} (hb:befB b.fc b.fr m.c m.r=true):befB a.fc a.fr m.c m.r=true:=by
 have h1:=h.floor
 have d: ¬(b.fc < a.fc\/b.fc=a.fc/\b.fr < a.fr):=by rw [<-gO];simp [h1]
 rw [gO] at hb ⊢
 omega
theorem TwoF.add {E:List Mv} {a b:Rep} (h:TwoF E a b) (o:SmF 700 a) (p:SmF 700 b) {m:Mv} (hb:befB b.fc b.fr m.c m.r=true):TwoF E (addF a m).1 (addF b m).1/\(addF a m).2=(addF b m).2:=by
 have n:=h.bef hb
 have f:=F0 h.may1 o m
 have g:=F0 h.may2 p m
 have late: ∀x∈E,¬(x.c=m.c/\x.r=m.r)/\Aq m x=false:= λx k=>by
  have h1:=h.early x k
  have q: ¬(b.fc < x.c\/b.fc=x.c/\b.fr < x.r):=by rw [<-gO];simp [h1]
  rw [gO] at hb
  refine ⟨by omega,?_⟩
  cases hm:Aq m x with
  | false=>rfl
  | true=>rw [AB] at hm;omega
 have d:a.log.any (Tm m.c m.r)=b.log.any (Tm m.c m.r):=by rw [h.log];exact acg λx k=>(late x k).1
 have e:E7 a.log m=E7 b.log m:=by unfold E7;rw [d]
 have i:E7 b.log m=true->vu a.log m=E++vu b.log m:= λhn=>by
  have j: ¬b.log.any (Tm m.c m.r)=true:=by unfold E7 at hn;simpa using hn
  rw [S1,S1,d,if_neg j,if_neg j,h.log]
  exact Ts (λx k=>(late x k).2) _
 unfold addF at f g ⊢
 simp only [o7.2 h.may1,o7.2 h.may2,n,hb,e,bb,if_true] at f g ⊢
 by_cases l:oneV m=true
 ·simp only [l,if_true] at f g ⊢
  by_cases hn:E7 b.log m=true
  ·simp only [e,hn,if_true] at f g ⊢
   exact ⟨⟨i hn,h.base,by simp only [h.mks],f,g,h.early,h.floor⟩,trivial⟩
  ·simp only [hn,if_false,a1] at f g ⊢
   exact ⟨h,trivial⟩
 ·simp only [l,if_false,a1] at f g ⊢
  exact ⟨h,trivial⟩
theorem ZT {r:Rep} (h:MayF r) (hs:SmF 300 r) {c t:Int} (hk:knownB r.mks c t=true): ∃E,TwoF E r (pruneF r c t).1:=by
 have b:=Np h (hs.mono (by omega)) c t
 have a:=(jL.1 h.moves).2.2
 have hf:=Q4 r c t
 rw [YW h hk] at b hf ⊢
 by_cases hb:befB r.fc r.fr c t=true
 ·rw [if_pos hb] at b hf ⊢
  refine ⟨Vo r.log c t,(Yq a c t).symm,rfl,rfl,h,b,λx d=> ?_,hf⟩
  rw [W9 a] at d
  simpa using (bf.1 d).2
 ·rw [if_neg hb] at b hf ⊢
  exact ⟨[],rfl,rfl,rfl,h,h,by simp,hf⟩
structure CameF (r:Rep) (took:List Mv) (a:Rep):Prop where
 may:MayF a
 mks: ∀x,getM a.mks x=max (getM r.mks x) (supV x took 0)
 good: ∀m∈took,oneV m=true
end Go.AM
namespace Go.AM
structure AllF (r:Rep) (l:List Mv) (a:Rep):Prop where
 came:CameF r l a
 log:a.log=uniV r.log l
 base:a.base=r.base
 fc:a.fc=r.fc
 fr:a.fr=r.fr
end Go.AM
