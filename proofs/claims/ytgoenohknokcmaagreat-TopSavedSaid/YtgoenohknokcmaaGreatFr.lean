/- Replicas, plainly: what may be; add, merge, prune; what they keep. No program is named here. -/
import Derived.Test.YtgoenohknokcmaaGreatTs
open Option renaming bind_some->ab
open Bool renaming and_eq_true->ad,true_and->a7
open List renaming mem_of_mem_take->ao,getElem?_eq_some_iff->aB,all_eq_true->a1,length_take->a2,length_map->a5,length_cons->a6
set_option linter.unusedVariables false
set_option linter.unusedSimpArgs false
namespace Go.AM
structure Rep where
 base:List Rw
 fc:Int
 fr:Int
 log:List Mv
 mks:List Mark
def kidsK (l:List Rw) (m:List Mv):List Int:=(m.map (·.ch)).foldl Hc ((l.map (·.ch)).foldl Hc [])
def knownB (v:List Mark) (c r:Int):Bool:=Qg c r&&decide (c<=getM v r)
def acv (r:Rep):Bool:=r.log.all λm=>befB r.fc r.fr m.c m.r
def Un (r:Rep):Bool:=
 mayR r.base&&(mayV r.log&&(Xr r.mks&&(AV (ofM r.log) r.mks&&((decide (r.fc=0/\r.fr=0)||knownB r.mks r.fc r.fr)&&(acv r&&decide ((kidsK r.base r.log).length<=2000))))))
structure MayF (r:Rep):Prop where
 tree:mayR r.base=true
 moves:mayV r.log=true
 marks:MayP r.mks
 cover: ∀m∈r.log,m.c<=getM r.mks m.r
 floor:(r.fc=0/\r.fr=0)\/knownB r.mks r.fc r.fr=true
 after: ∀m∈r.log,befB r.fc r.fr m.c m.r=true
 few:(kidsK r.base r.log).length<=2000
theorem Qu {c r:Int}:Qg c r=true↔1<=c/\c<=4611686018427387903/\1<=r/\r<=255:=by
 unfold Qg;simp only [ad,decide_eq_true_eq];omega
theorem s6 {m:Mv} (h:oneV m=true):1<=m.c/\m.c<=4611686018427387903/\1<=m.r/\m.r<=255:=by
 unfold oneV at h;simp only [ad] at h;exact Qu.1 h.1
theorem Sa (r:Int): ∀(l:List Mv) (n k:Int),supV r l n<=k↔n<=k/\ ∀m∈l,m.r=r->m.c<=k
 | [],n,k=>by simp [supV]
 | x::l,n,k=>by
   have ih:=Sa r l (if r=x.r then max n x.c else n) k
   have e:supV r (x::l) n=supV r l (if r=x.r then max n x.c else n):=rfl
   rw [e,ih]
   simp only [List.mem_cons,forall_eq_or_imp]
   by_cases h:r=x.r
   ·subst h
    simp only [if_true,forall_const]
    constructor
    ·rintro ⟨h1,h2⟩;exact ⟨by omega,by omega,h2⟩
    ·rintro ⟨h1,h2,a⟩;exact ⟨by omega,a⟩
   ·have h': ¬x.r=r:= λe=>h e.symm
    simp only [if_neg h,h',false_implies,true_and]
theorem YK (l:List Mv) (r:Int):getM (ofM l) r=supV r l 0:=by
 unfold ofM
 rw [Ni]
 rfl
theorem QY {l:List Mv} {v:List Mark} (hl: ∀m∈l,oneV m=true) (hv:MayP v):AV (ofM l) v=true↔ ∀m∈l,m.c<=getM v m.r:=by
 have hm:MayP (ofM l):=Qr MayP.nil λm hm=>s6 (hl m hm)
 rw [Xn hm hv.nonneg]
 constructor
 ·intro h m hm
  have:=h m.r
  rw [YK,Sa] at this
  exact this.2 m hm rfl
 ·intro h r
  rw [YK,Sa]
  exact ⟨hv.nonneg r,λm hm e=>e▸h m hm⟩
theorem BB {r:Rep}:Un r=true↔MayF r:=by
 unfold Un
 simp only [ad,Bool.or_eq_true,decide_eq_true_eq]
 constructor
 ·rintro ⟨h1,h2,a,b,c,d,e⟩
  have f:=Fs.1 a
  exact ⟨h1,h2,f,(QY (lD.1 h2).2.1 f).1 b,c,λm hm=>a1.1 d m hm,e⟩
 ·rintro ⟨h1,h2,a,b,c,d,e⟩
  exact ⟨h1,h2,Fs.2 a,(QY (lD.1 h2).2.1 a).2 b,c,a1.2 d,e⟩
def addF (r:Rep) (m:Mv):Rep×Bool×Int:=
 if (Un r&&oneV m)=true then
  if befB r.fc r.fr m.c m.r=true then
   if ab6 r.log m=true then (⟨r.base,r.fc,r.fr,HX r.log m,lz r.mks m.c m.r⟩,true,0) else (r,false,0)
  else (r,false,9)
 else (r,false,1)
def pruneF (r:Rep) (c t:Int):Rep×Int:=
 if (Un r&&knownB r.mks c t)=true then
  if befB r.fc r.fr c t=true then (⟨allV r.base (r.log.take (r.log.length - (CH r.log c t).length)),c,t,CH r.log c t,r.mks⟩,0) else (r,0)
 else (r,1)
theorem xB: ∀(xs K:List Int),(xs.foldl Hc K).length<=K.length+xs.length
 | [],K=>by simp
 | x::xs,K=>by
   have h1:=xB xs (Hc K x)
   have h2:(Hc K x).length<=K.length+1:=by unfold Hc;split<;>simp
   simp only [List.foldl_cons,a6];omega
theorem yf (l:List Rw) (m:List Mv):(kidsK l m).length<=l.length+m.length:=by
 unfold kidsK
 have h1:=xB (m.map (·.ch)) ((l.map (·.ch)).foldl Hc [])
 have h2:=xB (l.map (·.ch)) []
 simp at h1 h2;omega
theorem MayF.add {r:Rep} (h:MayF r) {m:Mv} (hm:oneV m=true) (hb:befB r.fc r.fr m.c m.r=true) (hl:r.log.length < 1000) (i:r.base.length < 1000):MayF ⟨r.base,r.fc,r.fr,HX r.log m,lz r.mks m.c m.r⟩:=by
 have d:=s6 hm
 obtain ⟨j,f,g⟩:=lD.1 h.moves
 have hlen:=zN r.log m
 have b: ∀x,getM r.mks x<=getM (lz r.mks m.c m.r) x:= λx=>by
  rw [DU];split
  ·rename_i e;rw [e];omega
  ·omega
 refine ⟨h.tree,lD.2 ⟨by dsimp only;omega,λx a=> ?_,UH g⟩,h.marks.raise ⟨d.2.2.1,d.2.2.2⟩ d.2.1,λx a=> ?_,?_,λx a=> ?_,?_⟩
 ·rcases EM a with rfl | a
  ·exact hm
  ·exact f x a
 ·rcases EM a with rfl | a
  ·dsimp only;rw [DU,if_pos rfl];omega
  ·exact Int.le_trans (h.cover x a) (b x.r)
 ·rcases h.floor with hf | hf
  ·exact .inl hf
  ·refine .inr ?_
   unfold knownB at hf ⊢
   simp only [ad,decide_eq_true_eq] at hf ⊢
   exact ⟨hf.1,Int.le_trans hf.2 (b _)⟩
 ·rcases EM a with rfl | a
  ·exact hb
  ·exact h.after x a
 ·have:=yf r.base (HX r.log m)
  dsimp only;omega
theorem F6 {l:List Mv} {c r:Int} {x:Mv}:x∈CH l c r↔x∈l/\befB c r x.c x.r=true:=by
 unfold CH;rw [List.mem_filter]
theorem uZ (l:List Mv) (c r:Int):(CH l c r).length<=l.length:=List.length_filter_le _ _
theorem Vo: ∀{ms:List Mv} {l:List Rw},mayR l=true->(∀m∈ms,oneV m=true)->l.length+ms.length<=2000->mayR (allV l ms)=true
 | [],l,h,_,_=>h
 | m::ms,l,h,hm,hl=>by
   have dl:=xK l m
   simp only [a6] at hl
   have a:mayR (TC l m)=true:=by
    cases hb:P9 l m with
    | true=>rw [adT hb];exact h
    | false=>exact adM h (hm m List.mem_cons_self) hb (by omega)
   exact Vo (ms:=ms) a (λx b=>hm x (List.mem_cons_of_mem _ b)) (by omega)
theorem MayF.prune {r:Rep} (h:MayF r) {c t:Int} (hk:knownB r.mks c t=true) (hl:r.log.length < 800) (f:r.base.length < 800):MayF ⟨allV r.base (r.log.take (r.log.length - (CH r.log c t).length)),c,t,CH r.log c t,r.mks⟩:=by
 obtain ⟨g,b,e⟩:=lD.1 h.moves
 have hlen:=uZ r.log c t
 have d:=rj (r.log.take (r.log.length - (CH r.log c t).length)) r.base
 simp only [a2] at d
 refine ⟨Vo h.tree (λx a=>b x (ao a)) (by simp only [a2];omega),lD.2 ⟨by dsimp only;omega,λx a=>b x (F6.1 a).1,?_⟩,h.marks,λx a=>h.cover x (F6.1 a).1,.inr hk,λx a=>(F6.1 a).2,?_⟩
 ·exact e.sublist List.filter_sublist
 ·have:=yf (allV r.base (r.log.take (r.log.length - (CH r.log c t).length))) (CH r.log c t)
  dsimp only;omega
def Qw (a b:Rep):Bool:=Q0 a.base b.base&&(decide (a.fc=b.fc/\a.fr=b.fr)&&(QK a.log b.log&&decide (a.mks=b.mks)))
theorem XD (a:List Mv):QK a a=true:=by simp [QK]
theorem XT (a:Rep):Qw a a=true:=by simp [Qw,DL,XD]
end Go.AM
namespace Go.AM
theorem Zl (a b c d:Int):HO .eql [.i,.i] [.int .i64 a,.int .i64 b] [.int .i64 c,.int .i64 d]=some (.bool (decide (a=c/\b=d))):=by
 simp [HO,Hb,SW]
 by_cases h1:a=c<;>by_cases h2:b=d<;>simp [h1,h2]
theorem mB {f:List IV->Option SR} {vs vs':List IV} (n:Nat) (h:f vs=some (.next vs')):iter (n+1) f vs=iter n f vs':=by
 rw [iter,h];rfl
structure SmF (n:Nat) (r:Rep):Prop where
 base:r.base.length<=n
 log:r.log.length<=n
 mks:r.mks.length<=n
structure OKF (r:Rep):Prop where
 base:OKl r.base
 log: ∀m∈r.log,OKm m
theorem OKF.fl {r:Rep} (h:OKF r):afP r.log:= λm hm=>(h.log m hm).rk
def Ya (r:Rep) (l:List IV):List IV:=cr r.base:: .int .i64 r.fc:: .int .i64 r.fr::bg r.log::aA r.mks::l
theorem A5 {v:List Mark} (hv:v.length < 2 ^ 16) (c r:Int):kx (aA v) (.int .i64 c) (.int .i64 r)=some [.bool (knownB v c r)]:=by
 unfold kx knownB Qg
 simp only [dw,gG,ab,aZ,xZ hv,af]
 by_cases h1:1<=c<;>by_cases h2:c<=4611686018427387903<;>by_cases a:1<=r<;>by_cases b:r<=255<;>simp [h1,h2,a,b]
theorem Rf {α:Type} {f:List IV->Option SR} {l:List α} {g:α->Int} (hl:l.length < 2 ^ 16) (K:List Int)
  (h1: ∀(i:Nat) (x:α) (K:List Int),l[i]? =some x->f [eK K,.int .i64 (i:Int)]=some (.next [eK (Hc K (g x)),.int .i64 ((i+1:Nat):Int)])) (h2: ∀K:List Int,f [eK K,.int .i64 (l.length:Int)]=some (.done 0 [eK K])):
  iter rounds f [eK K,.int .i64 0]=some (0,[eK ((l.map g).foldl Hc K)]):=by
 rw [mI (vs0:=[eK K,.int .i64 0]) (λi (s:List Int)=>[eK s,.int .i64 (i:Int)]) (λK (x:α)=>Hc K (g x)) 0 (λs=>[eK s]) (λ_ _=>True) l K rfl (by have:=aI;omega) trivial]
 ·rw [List.foldl_map]
 ·intro i s x a _;exact ⟨trivial,h1 i x s a⟩
 ·intro s _;exact h2 s
theorem va {l:List Rw} {m:List Mv} (hl:l.length < 2 ^ 16) (hm:m.length < 2 ^ 16) (a b c:IV):fI (cr l) a b (bg m) c=some [eK (kidsK l m)]:=by
 unfold fI kidsK
 have e0:(IV.map [])=eK []:=rfl
 simp only [aw,ab,a5,e0]
 rw [Rf (l:=l) (g:=(·.ch)) hl []]
 ·simp only [ab,aJ,af]
  rw [Rf (l:=m) (g:=(·.ch)) hm]
  ·simp only [ab,aJ,af]
  ·intro i x K d
   have hi:i < m.length:=(aB.1 d).1
   unfold oZ
   simp only [af,ai,ay,az,al,Int.ofNat_lt,hi,uX d,decide_true,ah,ab,VT,au (show i < 2 ^ 62 by omega)]
  ·intro K
   unfold oZ
   simp
 ·intro i x K d
  have hi:i < l.length:=(aB.1 d).1
  unfold o7
  simp only [af,ai,al,Int.ofNat_lt,hi,Qt d,decide_true,ah,ab,VT,au (show i < 2 ^ 62 by omega)]
 ·intro K
  unfold o7
  simp
theorem Yh (l:List Mv):(ofM l).length<=l.length:=by
 have:=Ga l []
 simpa [ofM] using this
theorem ad6 (r:Rep):decide ((CH r.log r.fc r.fr).length=r.log.length)=acv r:=by
 unfold acv CH
 rw [Bool.eq_iff_iff,decide_eq_true_eq,a1]
 exact List.length_filter_eq_length_iff
theorem sM {r:Rep} (h:SmF 2000 r) (p:OKF r):ju (cr r.base) (.int .i64 r.fc) (.int .i64 r.fr) (bg r.log) (aA r.mks)=some [.bool (Un r)]:=by
 have hb:=h.base
 have k:=h.log
 have o:=h.mks
 have q:=Yh r.log
 have hs:=uZ r.log r.fc r.fr
 have c1:m9 (.ptr [cr r.base,.int .i64 r.fc,.int .i64 r.fr,bg r.log,aA r.mks] 0)=some [.bool (mayR r.base&&(mayV r.log&&Xr r.mks))]:=by
  unfold m9
  simp [gu,iM,Bo (l:=r.base) (by omega) p.base,yd (l:=r.log) (by omega),xN (v:=r.mks) (by omega),cm]
  cases mayR r.base<;>cases mayV r.log<;>simp
 have c2:nj (.ptr [cr r.base,.int .i64 r.fc,.int .i64 r.fr,bg r.log,aA r.mks] 0)=some [.bool (AV (ofM r.log) r.mks)]:=by
  unfold nj
  simp [gu,iM,UP (l:=r.log) (by omega),MB (a:=ofM r.log) (b:=r.mks) (by omega) (by omega)]
 have c3:nv (.ptr [cr r.base,.int .i64 r.fc,.int .i64 r.fr,bg r.log,aA r.mks] 0)=some [.bool (decide (r.fc=0/\r.fr=0)||knownB r.mks r.fc r.fr)]:=by
  unfold nv
  simp [gu,iM,y5,Zl,cm,A5 (v:=r.mks) (by omega)]
  by_cases e:r.fc=0/\r.fr=0<;>simp [e]
 have c4:na (.ptr [cr r.base,.int .i64 r.fc,.int .i64 r.fr,bg r.log,aA r.mks] 0)=some [.bool (acv r)]:=by
  unfold na
  simp [gu,iM,y5,AK (l:=r.log) (by omega)]
  rw [<-ad6 r]
  congr 1
  apply propext
  omega
 have c5:nk (.ptr [cr r.base,.int .i64 r.fc,.int .i64 r.fr,bg r.log,aA r.mks] 0)=some [.bool (decide ((kidsK r.base r.log).length<=2000))]:=by
  unfold nk
  simp [y5,va (l:=r.base) (m:=r.log) (by omega) (by omega),Y9]
  omega
 have step: ∀(i:Nat) (b:Bool) (c:IV),i < 5->dU (.lst [[(.clo (.func nL) [(.ptr [cr r.base,.int .i64 r.fc,.int .i64 r.fr,bg r.log,aA r.mks] 0)])],[(.clo (.func nN) [(.ptr [cr r.base,.int .i64 r.fc,.int .i64 r.fr,bg r.log,aA r.mks] 0)])],[(.clo (.func nf) [(.ptr [cr r.base,.int .i64 r.fc,.int .i64 r.fr,bg r.log,aA r.mks] 0)])],[(.clo (.func nx) [(.ptr [cr r.base,.int .i64 r.fc,.int .i64 r.fr,bg r.log,aA r.mks] 0)])],[(.clo (.func nr) [(.ptr [cr r.base,.int .i64 r.fc,.int .i64 r.fr,bg r.log,aA r.mks] 0)])]]) i 0=some c->dX c [1] []=some [.bool b]->
   mJ (cr r.base) (.int .i64 r.fc) (.int .i64 r.fr) (bg r.log) (aA r.mks) [.int .i64 (i:Int)]=some (if b=true then .next [.int .i64 ((i+1:Nat):Int)] else .done 1 [.bool false]):=by
  intro i b c hi h1 h2
  have g:cA 5 (.int .i64 (i:Int))=some i:=e9 hi
  have d:(i:Int) < ((5:Nat):Int):=by omega
  unfold mJ
  simp only [af,al,d,decide_true,ah,ab,g,h1,h2,aX,cm,au (show i < 2 ^ 62 by omega)]
  cases b<;>simp
 have s:=step 0 _ _ (by decide) rfl (show dX _ _ _=_ from c1)
 have s1:=step 1 _ _ (by decide) rfl (show dX _ _ _=_ from c2)
 have s2:=step 2 _ _ (by decide) rfl (show dX _ _ _=_ from c3)
 have t:=step 3 _ _ (by decide) rfl (show dX _ _ _=_ from c4)
 have s4:=step 4 _ _ (by decide) rfl (show dX _ _ _=_ from c5)
 have u:mJ (cr r.base) (.int .i64 r.fc) (.int .i64 r.fr) (bg r.log) (aA r.mks) [.int .i64 ((5:Nat):Int)]=some (.done 0 []):=by
  unfold mJ
  simp
 unfold ju Un
 obtain ⟨N,j⟩: ∃N,rounds=N+1+1+1+1+1+1:=⟨999994,rfl⟩
 rw [j,show (IV.int .i64 0)=IV.int .i64 ((0:Nat):Int) from rfl]
 generalize mJ (cr r.base) (.int .i64 r.fc) (.int .i64 r.fr) (bg r.log) (aA r.mks)=f at*
 have done: ∀(n i:Nat) (b:Bool),f [.int .i64 (i:Int)]=some (if b=true then .next [.int .i64 ((i+1:Nat):Int)] else .done 1 [.bool false])->iter (n+1) f [.int .i64 (i:Int)]=if b=true then iter n f [.int .i64 ((i+1:Nat):Int)] else some (1,[.bool false]):=by
  intro n i b h
  cases b with
  | true=>rw [mB n h,if_pos rfl]
  | false=>rw [fL n h];rfl
 rw [done _ 0 _ s,done _ 1 _ s1,done _ 2 _ s2,done _ 3 _ t,done _ 4 _ s4,fL _ u]
 cases mayR r.base<;>cases mayV r.log<;>cases Xr r.mks<;>cases AV (ofM r.log) r.mks<;>cases (decide (r.fc=0/\r.fr=0)||knownB r.mks r.fc r.fr)<;>cases acv r<;>cases decide ((kidsK r.base r.log).length<=2000)<;>rfl
end Go.AM
namespace Go.AM
theorem SmF.mono {n m:Nat} {r:Rep} (h:SmF n r) (a:n<=m):SmF m r:=⟨Nat.le_trans h.base a,Nat.le_trans h.log a,Nat.le_trans h.mks a⟩
theorem SmF.add {n:Nat} {r:Rep} (h:SmF n r) (m:Mv):SmF (n+1) (addF r m).1:=by
 have h1:=h.base
 have h2:=h.log
 have a:=h.mks
 have b:=zN r.log m
 have d:=vR (c:=m.c) (r:=m.r) r.mks
 unfold addF
 split
 ·split
  ·split
   ·exact ⟨by dsimp only;omega,by dsimp only;omega,by dsimp only;omega⟩
   ·exact h.mono (by omega)
  ·exact h.mono (by omega)
 ·exact h.mono (by omega)
theorem abe {l:List Mv} {m:Mv} (h: ∀x∈l,OKm x) (hm:OKm m): ∀x∈HX l m,OKm x:= λx a=>by
 rcases EM a with rfl | a
 ·exact hm
 ·exact h x a
theorem OKF.add {r:Rep} (h:OKF r) {m:Mv} (hm:OKm m):OKF (addF r m).1:=by
 unfold addF
 split
 ·split
  ·split
   ·exact ⟨h.base,abe h.log hm⟩
   ·exact h
  ·exact h
 ·exact h
theorem OKF.prune {r:Rep} (h:OKF r) (c t:Int):OKF (pruneF r c t).1:=by
 unfold pruneF
 split
 ·split
  ·exact ⟨OKl.allV h.base λm hm=>h.log m (ao hm),λm hm=>h.log m (F6.1 hm).1⟩
  ·exact h
 ·exact h
theorem xQ {r:Rep} (h:SmF 900 r) (d:OKF r) {m:Mv} (hm:OKm m):gU (cr r.base) (.int .i64 r.fc) (.int .i64 r.fr) (bg r.log) (aA r.mks) (.int .i64 m.c) (.int .i64 m.r) (.int .i64 m.par) (.int .i64 m.ch) (.str m.nm) (.flt .f64 m.rk)=
  some [cr (addF r m).1.base,.int .i64 (addF r m).1.fc,.int .i64 (addF r m).1.fr,bg (addF r m).1.log,aA (addF r m).1.mks,.bool (addF r m).2.1,.int .i64 (addF r m).2.2]:=by
 have hb:=h.base
 have a:=h.log
 have b:=h.mks
 have hk:=yf r.base r.log
 have e: ¬((r.log.length:Int)=2000):=by omega
 have f: ¬(((kidsK r.base r.log).length:Int)=2000):=by omega
 unfold gU addF
 simp only [sM (h.mono (by omega)) d,yq,lN,J9 (l:=r.log) (show r.log.length < 2 ^ 16 by omega),va (l:=r.base) (m:=r.log) (show r.base.length < 2 ^ 16 by omega) (show r.log.length < 2 ^ 16 by omega),zS (l:=r.mks) (show r.mks.length < 2 ^ 16 by omega),ab,af,ai,ay,aX,Fu,cm,aw,a5,Y9,abq,dP,aZ,e,f,if_false,decide_false,ag]
 cases Un r<;>cases oneV m<;>cases befB r.fc r.fr m.c m.r<;>cases ab6 r.log m<;>simp
theorem qP {a b:Nat} (h:b<=a) (c:a < 2 ^ 60):aa .sub (.int .i64 (a:Int)) (.int .i64 (b:Int))=some (.int .i64 ((a - b:Nat):Int)):=by
 rw [pU (by omega) (by omega)]
 congr 2;omega
theorem Mw {r:Rep} (h:SmF 2000 r) (b:OKF r) (c t:Int):kB (cr r.base) (.int .i64 r.fc) (.int .i64 r.fr) (bg r.log) (aA r.mks) (.int .i64 c) (.int .i64 t)=
  some [cr (pruneF r c t).1.base,.int .i64 (pruneF r c t).1.fc,.int .i64 (pruneF r c t).1.fr,bg (pruneF r c t).1.log,aA (pruneF r c t).1.mks,.int .i64 (pruneF r c t).2]:=by
 have hb:=h.base
 have d:=h.log
 have e:=h.mks
 have hs:=uZ r.log c t
 have a:=Io (l:=r.base) (ms:=r.log.take (r.log.length - (CH r.log c t).length)) (by simp only [a2];omega) b.base λm hm=>b.log m (ao hm)
 unfold kB pruneF
 simp only [sM h b,A5 (v:=r.mks) (show r.mks.length < 2 ^ 16 by omega),lN,AK (l:=r.log) (show r.log.length < 2 ^ 16 by omega),ab,af,aX,Fu,cm,aw,a5,qP hs (by omega),aaI (l:=r.log) (Nat.sub_le _ _),a]
 cases Un r<;>cases knownB r.mks c t<;>cases befB r.fc r.fr c t<;>simp
theorem vL {r:Rep} (h:SmF 2000 r) (d:OKF r) (a b c:IV):fk (cr r.base) a b (bg r.log) c=some [cr (allV r.base r.log)]:=by
 have hb:=h.base
 have e:=h.log
 unfold fk
 simp only [Io (l:=r.base) (ms:=r.log) (by omega) d.base d.log,ab,af]
theorem N7 {a b:Rep} (h:SmF 2000 a) (c:OKF a) (hb:OKF b):pS (cr a.base) (.int .i64 a.fc) (.int .i64 a.fr) (bg a.log) (aA a.mks) (cr b.base) (.int .i64 b.fc) (.int .i64 b.fr) (bg b.log) (aA b.mks)=some [.bool (Qw a b)]:=by
 have h1:=h.base
 have h2:=h.log
 have d:=h.mks
 unfold pS Qw
 simp only [Zl,ab,cm,wj (a:=a.base) (b:=b.base) (by omega) c.base.fl hb.base.fl,OI (a:=a.log) (b:=b.log) (by omega) c.fl hb.fl,Qf (a:=a.mks) (b:=b.mks) (by omega),af]
 cases decide (a.fc=b.fc/\a.fr=b.fr)<;>cases Q0 a.base b.base<;>cases QK a.log b.log<;>simp
end Go.AM
namespace Go.AM
end Go.AM
namespace Go.AM
theorem acs {r:Rep} {m:Mv} (h:(addF r m).2.2≠0):(addF r m).2.1=false/\(addF r m).1=r:=by
 unfold addF at h ⊢
 split
 ·rename_i h1
  rw [if_pos h1] at h
  split
  ·rename_i h2
   rw [if_pos h2] at h
   split
   ·rename_i a;rw [if_pos a] at h;exact absurd rfl h
   ·exact ⟨rfl,rfl⟩
  ·exact ⟨rfl,rfl⟩
 ·exact ⟨rfl,rfl⟩
theorem abh {r:Rep} (h:MayF r) (hs:SmF 700 r) (m:Mv):MayF (addF r m).1:=by
 have h1:=hs.base
 have h2:=hs.log
 unfold addF
 split
 ·rename_i h1
  simp only [ad] at h1
  split
  ·rename_i h2
   split
   ·exact h.add h1.2 h2 (by omega) (by omega)
   ·exact h
  ·exact h
 ·exact h
theorem Wm {r:Rep} (h:MayF r) (m:Mv):(addF r m).2.2=if oneV m=true then (if befB r.fc r.fr m.c m.r=true then 0 else 9) else 1:=by
 unfold addF
 rw [BB.2 h,a7]
 cases oneV m<;>cases befB r.fc r.fr m.c m.r<;>cases ab6 r.log m<;>rfl
theorem Xk {r:Rep} {c t:Int} (h:(pruneF r c t).2≠0):(pruneF r c t).1=r:=by
 unfold pruneF at h ⊢
 split
 ·rename_i h1
  rw [if_pos h1] at h
  split
  ·rename_i h2;rw [if_pos h2] at h;exact absurd rfl h
  ·rfl
 ·rfl
theorem Yx {r:Rep} (h:MayF r) (hs:SmF 700 r) (c t:Int):MayF (pruneF r c t).1:=by
 have h1:=hs.base
 have h2:=hs.log
 unfold pruneF
 split
 ·rename_i h1
  simp only [ad] at h1
  split
  ·exact h.prune h1.2 (by omega) (by omega)
  ·exact h
 ·exact h
theorem Xq {r:Rep} (h:MayF r) (c t:Int):(pruneF r c t).2=if knownB r.mks c t=true then 0 else 1:=by
 unfold pruneF
 rw [BB.2 h,a7]
 cases knownB r.mks c t<;>cases befB r.fc r.fr c t<;>rfl
theorem Yf (r:Rep) (c t:Int):(pruneF r c t).1.mks=r.mks:=by
 unfold pruneF
 split
 ·split<;>rfl
 ·rfl
theorem Xa (r:Rep) (m:Mv):(addF r m).1.fc=r.fc/\(addF r m).1.fr=r.fr/\(addF r m).1.base=r.base:=by
 unfold addF
 split
 ·split
  ·split<;>exact ⟨rfl,rfl,rfl⟩
  ·exact ⟨rfl,rfl,rfl⟩
 ·exact ⟨rfl,rfl,rfl⟩
end Go.AM
namespace Go.AM
structure TwoF (E:List Mv) (a b:Rep):Prop where
 log:a.log=E++b.log
 base:b.base=allV a.base E
 mks:a.mks=b.mks
 may1:MayF a
 may2:MayF b
 early: ∀x∈E,befB b.fc b.fr x.c x.r=false
 floor:befB b.fc b.fr a.fc a.fr=false
theorem n8 (a b c d e f g h i:IV) (l:List IV):nth (a::b::c::d::e::f::g::h::i::l) 8=i:=rfl
theorem n9 (a b c d e f g h i j:IV) (l:List IV):nth (a::b::c::d::e::f::g::h::i::j::l) 9=j:=rfl
theorem n10 (a b c d e f g h i j k:IV) (l:List IV):nth (a::b::c::d::e::f::g::h::i::j::k::l) 10=k:=rfl
structure CameF (r:Rep) (took:List Mv) (a:Rep):Prop where
 may:MayF a
 mks: ∀x,getM a.mks x=max (getM r.mks x) (supV x took 0)
 good: ∀m∈took,oneV m=true
end Go.AM
namespace Go.AM
structure AllF (r:Rep) (l:List Mv) (a:Rep):Prop where
 came:CameF r l a
 log:a.log=uniV r.log l
 base:a.base=r.base
 fc:a.fc=r.fc
 fr:a.fr=r.fr
end Go.AM
